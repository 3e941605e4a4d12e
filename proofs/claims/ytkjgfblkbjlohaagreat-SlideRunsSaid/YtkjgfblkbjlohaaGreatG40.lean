/- Slide, plain: what stays is never placed behind where it stood. -/
import Derived.Test.YtkjgfblkbjlohaaGreatG13
set_option linter.all false

namespace Go.Proofs.YtkjgfblkbjlohaaGreat
open Go.RowKit

section
variable {L : Nat → Sp} {n : Nat} {Z : Nat → Int} {m : Nat}
def pos (L : Nat → Sp) (n : Nat) (Z : Nat → Int) (i : Nat) : Nat := to n (sts L n Z i) (Z i)
theorem sts_now (i q : Nat) : (sts L n Z (i + 1)).now q = if q = pos L n Z i then { (sts L n Z i).now q with t := ((sts L n Z i).now q).t + Z i } else (sts L n Z i).now q := by
  show setS (sts L n Z i).now (to n (sts L n Z i) (Z i)) _ q = _
  unfold setS pos
  by_cases e : q = to n (sts L n Z i) (Z i)
  · rw [if_pos e, if_pos e, e]
  · rw [if_neg e, if_neg e]
theorem sts_fe : ∀ i q, ((sts L n Z i).now q).f = (L q).f ∧ ((sts L n Z i).now q).e = (L q).e
  | 0, q => ⟨rfl, rfl⟩
  | i + 1, q => by
    rw [sts_now]
    split
    · exact sts_fe i q
    · exact sts_fe i q
theorem sts_t (i q : Nat) : ((sts L n Z (i + 1)).now q).t = if q = pos L n Z i then ((sts L n Z i).now q).t + Z i else ((sts L n Z i).now q).t := by
  rw [sts_now]; split <;> rfl
theorem sts_mono (hZ : ∀ j, j < m → 1 ≤ Z j) (q i : Nat) : ∀ d, i + d ≤ m → ((sts L n Z i).now q).t ≤ ((sts L n Z (i + d)).now q).t
  | 0, _ => Int.le_refl _
  | d + 1, h => by
    have ih := sts_mono hZ q i d (by omega)
    have hz := hZ (i + d) (by omega)
    rw [← Nat.add_assoc, sts_t]
    split <;> omega
theorem sts_kpos (i : Nat) : (sts L n Z (i + 1)).k = pos L n Z i := rfl
theorem pos_ge (i : Nat) : (sts L n Z i).k ≤ pos L n Z i := to_ge
theorem pos_lt (hs : ∀ j, j < m → ¬ Stuck L n Z j) {i : Nat} (hi : i < m) : pos L n Z i < n :=
  Nat.lt_of_le_of_ne (to_le (sts_k i)) (hs i hi)
theorem sts_outv : ∀ i j, j < i → (sts L n Z i).out.getD j 0 = ((sts L n Z j).now (pos L n Z j)).t
  | 0, j, h => by omega
  | i + 1, j, h => by
    show ((sts L n Z i).out ++ [_]).getD j 0 = _
    have hl := sts_out (L := L) (n := n) (Z := Z) i
    by_cases e : j < i
    · rw [List.getD_eq_getElem?_getD, List.getElem?_append_left (by omega), ← List.getD_eq_getElem?_getD]
      exact sts_outv i j e
    · have : j = i := by omega
      subst this
      rw [List.getD_eq_getElem?_getD, List.getElem?_append_right (by omega), hl]
      simp [pos]
theorem rise_lt (hL : Rise L n) : ∀ d q, q + 1 + d < n → (L q).e ≤ (L (q + 1 + d)).f
  | 0, q, h => (hL (q + 1) h).2
  | d + 1, q, h => by
    have ih := rise_lt hL d q (by omega)
    have h1 := (rightB_iff _).1 (hL (q + 1 + d) (by omega)).1
    have h2 : (L (q + 1 + d)).e ≤ (L (q + 1 + d + 1)).f := (hL (q + 1 + d + 1) h).2
    show (L q).e ≤ (L (q + 1 + d + 1)).f
    omega
theorem rise_sep (hL : Rise L n) {q r : Nat} (h : q < r) (hr : r < n) : (L q).e ≤ (L r).f := by
  obtain ⟨d, rfl⟩ : ∃ d, r = q + 1 + d := ⟨r - (q + 1), by omega⟩
  exact rise_lt hL d q hr

/-- The facts on a plan that came out well. -/
structure Well (L : Nat → Sp) (n : Nat) (Z : Nat → Int) (m : Nat) : Prop where
  rise : Rise L n
  big : ∀ j, j < m → 1 ≤ Z j
  free : ∀ j, j < m → ¬ Stuck L n Z j
variable (W : Well L n Z m)
include W
theorem Well.bd {i q : Nat} (hi : i ≤ m) (hq : q < n) : 0 ≤ (L q).f ∧ (L q).f ≤ ((sts L n Z i).now q).t ∧ ((sts L n Z i).now q).t ≤ (L q).e ∧ (L q).e ≤ 4096 := by
  have := (rightB_iff _).1 (sts_right W.rise W.big i hi (fun j h => W.free j (by omega)) q hq)
  have h2 := sts_fe (L := L) (n := n) (Z := Z) i q
  omega
/-- Where an object lies. -/
theorem Well.lies {i : Nat} (hi : i < m) : pos L n Z i < n ∧ (L (pos L n Z i)).f ≤ (sts L n Z m).out.getD i 0 ∧ (sts L n Z m).out.getD i 0 + Z i ≤ ((sts L n Z m).now (pos L n Z i)).t := by
  have hp := pos_lt W.free hi
  rw [sts_outv m i hi]
  have h1 := W.bd (i := i) (by omega) hp
  have h2 := sts_mono (L := L) (n := n) W.big (pos L n Z i) (i + 1) (m - (i + 1)) (by omega)
  rw [show i + 1 + (m - (i + 1)) = m from by omega, sts_t, if_pos rfl] at h2
  exact ⟨hp, h1.2.1, h2⟩
theorem Well.next {i : Nat} (h0 : 0 < i) (hi : i < m) : (sts L n Z m).out.getD (i - 1) 0 + Z (i - 1) ≤ (sts L n Z m).out.getD i 0 := by
  obtain ⟨i, rfl⟩ : ∃ j, i = j + 1 := ⟨i - 1, by omega⟩
  rw [Nat.add_sub_cancel, sts_outv m i (by omega), sts_outv m (i + 1) hi]
  have hp := pos_lt W.free (i := i) (by omega)
  have hp' := pos_lt W.free hi
  have hg : pos L n Z i ≤ pos L n Z (i + 1) := pos_ge (i + 1)
  have ht := sts_t (L := L) (n := n) (Z := Z) i (pos L n Z i)
  rw [if_pos rfl] at ht
  by_cases e : pos L n Z (i + 1) = pos L n Z i
  · rw [e, ht]; exact Int.le_refl _
  · have h1 := rise_sep W.rise (q := pos L n Z i) (r := pos L n Z (i + 1)) (by omega) hp'
    have h2 := W.bd (i := i + 1) (by omega) hp
    have h3 := W.bd (i := i + 1) (by omega) hp'
    omega
/-- Is an address taken in a space? -/
def hasB (s : Sp) (x : Int) : Bool := rightB s && (decide (s.f ≤ x) && decide (x < s.t))
omit W in
theorem hasB_iff (s : Sp) (x : Int) : hasB s x = true ↔ rightB s = true ∧ s.f ≤ x ∧ x < s.t := by simp [hasB]
theorem Well.right {q : Nat} (hq : q < n) : rightB ((sts L n Z m).now q) = true := sts_right W.rise W.big m (Nat.le_refl _) W.free q hq
/-- An object is in its space, and in no other. -/
theorem Well.one {i q : Nat} (hi : i < m) (hq : q < n) : (hasB ((sts L n Z m).now q) ((sts L n Z m).out.getD i 0) && hasB ((sts L n Z m).now q) ((sts L n Z m).out.getD i 0 + Z i - 1)) = decide (q = pos L n Z i) := by
  obtain ⟨h1, h2, h3⟩ := W.lies hi
  have hz := W.big i hi
  have hfe := sts_fe (L := L) (n := n) (Z := Z) m q
  have hr := W.right hq
  have hb := W.bd (i := m) (Nat.le_refl _) hq
  have hb' := W.bd (i := m) (Nat.le_refl _) h1
  by_cases e : q = pos L n Z i
  · subst e
    rw [decide_eq_true rfl, Bool.and_eq_true, hasB_iff, hasB_iff]
    exact ⟨⟨hr, by omega, by omega⟩, hr, by omega, by omega⟩
  · rw [decide_eq_false e, Bool.and_eq_false_iff]
    refine .inl ?_
    rw [Bool.eq_false_iff]
    intro k
    obtain ⟨_, k1, k2⟩ := (hasB_iff _ _).1 k
    rcases Nat.lt_or_gt_of_ne e with h | h
    · have := rise_sep W.rise h h1; omega
    · have := rise_sep W.rise h hq; omega
end
/-- Sums. -/
def sumZ (Z : Nat → Int) : Nat → Int
  | 0 => 0
  | i + 1 => sumZ Z i + Z i
def used (now : Nat → Sp) : Nat → Int
  | 0 => 0
  | q + 1 => used now q + ((now q).t - (now q).f)
theorem used_congr {a b : Nat → Sp} : ∀ n, (∀ q, q < n → a q = b q) → used a n = used b n
  | 0, _ => rfl
  | n + 1, h => by unfold used; rw [used_congr n (fun q hq => h q (by omega)), h n (by omega)]
theorem used_set (now : Nat → Sp) (k : Nat) (s : Sp) : ∀ n, k < n → used (setS now k s) n = used now n + ((s.t - s.f) - ((now k).t - (now k).f))
  | 0, h => by omega
  | n + 1, h => by
    unfold used
    by_cases e : k = n
    · subst e
      rw [used_congr k (b := now) (fun q hq => by unfold setS; rw [if_neg (by omega)])]
      unfold setS
      rw [if_pos rfl]
      omega
    · rw [used_set now k s n (by omega)]
      unfold setS
      rw [if_neg (by omega)]
      omega
theorem used_sum {L : Nat → Sp} {n : Nat} {Z : Nat → Int} {m : Nat} (W : Well L n Z m) : ∀ i, i ≤ m → used (sts L n Z i).now n = sumZ Z i
  | 0, _ => by
    show used (fun i => emp (L i)) n = 0
    have : ∀ n, used (fun i => emp (L i)) n = 0 := fun n => by
      induction n with
      | zero => rfl
      | succ n ih => unfold used; rw [ih]; simp [emp]
    exact this n
  | i + 1, h => by
    have ih := used_sum W i (by omega)
    have hp := pos_lt W.free (i := i) (by omega)
    show used (setS (sts L n Z i).now (pos L n Z i) _) n = sumZ Z i + Z i
    rw [used_set _ _ _ n hp, ih]
    dsimp only
    unfold pos
    omega
theorem sum_bd {Z : Nat → Int} {m : Nat} (h : ∀ j, j < m → 1 ≤ Z j ∧ Z j ≤ 4096) : ∀ i, i ≤ m → 0 ≤ sumZ Z i ∧ sumZ Z i ≤ 4096 * i
  | 0, _ => by simp [sumZ]
  | i + 1, hi => by
    have ih := sum_bd h i (by omega)
    have := h i (by omega)
    unfold sumZ
    omega
theorem Well.z {L : Nat → Sp} {n : Nat} {Z : Nat → Int} {m : Nat} (W : Well L n Z m) : ∀ j, j < m → 1 ≤ Z j ∧ Z j ≤ 4096 := by
  intro j hj
  obtain ⟨h1, h2, h3⟩ := W.lies hj
  have := W.bd (i := m) (Nat.le_refl _) h1
  have := W.big j hj
  omega

end Go.Proofs.YtkjgfblkbjlohaaGreat

namespace Go.Proofs.YtkjgfblkbjlohaaGreat
open Go.RowKit

/-- The search ends at the latest where there is room. -/
theorem seek_before (now : Nat → Sp) (z : Int) : ∀ m k j, k ≤ j → j < k + m → ¬ (now j).e - (now j).t < z → seek now z m k ≤ j
  | 0, k, j, h1, h2, _ => by omega
  | m + 1, k, j, h1, h2, h => by
    unfold seek
    by_cases hk : (now k).e - (now k).t < z
    · rw [if_pos hk]
      by_cases e : j = k
      · subst e; exact absurd hk h
      · exact seek_before now z m (k + 1) j (by omega) (by omega) h
    · rw [if_neg hk]; exact h1
/-- Items that lie in their spaces, rising. -/
structure Items (L : Nat → Sp) (n : Nat) (Z : Nat → Int) (m : Nat) (s : Nat → Int) (sp : Nat → Nat) : Prop where
  rise : Rise L n
  big : ∀ i, i < m → 1 ≤ Z i
  inn : ∀ i, i < m → sp i < n ∧ (L (sp i)).f ≤ s i ∧ s i + Z i ≤ (L (sp i)).t
  next : ∀ i, i + 1 < m → s i + Z i ≤ s (i + 1) ∧ sp i ≤ sp (i + 1)
theorem Items.greedy {L : Nat → Sp} {n : Nat} {Z : Nat → Int} {m : Nat} {s : Nat → Int} {sp : Nat → Nat} (h : Items L n Z m s sp) : ∀ i, i ≤ m →
    (∀ j, j < i → ¬ Stuck L n Z j ∧ ((sts L n Z j).now (pos L n Z j)).t ≤ s j) ∧
    (i < m → (sts L n Z i).k ≤ sp i ∧ (∀ q, (sts L n Z i).k < q → ((sts L n Z i).now q).t = (L q).f) ∧ ((sts L n Z i).k = sp i → ((sts L n Z i).now (sp i)).t ≤ s i))
  | 0, _ => ⟨fun j hj => by omega, fun hm => ⟨Nat.zero_le _, fun q _ => rfl, fun _ => (h.inn 0 hm).2.1⟩⟩
  | i + 1, hi => by
    obtain ⟨ih1, ih2⟩ := h.greedy i (by omega)
    obtain ⟨k1, k2, k3⟩ := ih2 (by omega)
    obtain ⟨n1, n2, n3⟩ := h.inn i (by omega)
    have hz := h.big i (by omega)
    have hR := (rightB_iff _).1 (h.rise (sp i) n1).1
    have tq : ((sts L n Z i).now (sp i)).t ≤ s i := by
      by_cases e : (sts L n Z i).k = sp i
      · exact k3 e
      · rw [k2 (sp i) (by omega)]; exact n2
    obtain ⟨f1, f2⟩ := sts_fe (L := L) (n := n) (Z := Z) i (sp i)
    have hp : pos L n Z i ≤ sp i := seek_before _ _ _ _ _ k1 (by omega) (by rw [f2]; omega)
    have hge := pos_ge (L := L) (n := n) (Z := Z) i
    have hst : ¬ Stuck L n Z i := fun e => by
      have : pos L n Z i = n := e
      omega
    have hpl : ((sts L n Z i).now (pos L n Z i)).t ≤ s i := by
      by_cases e : pos L n Z i = sp i
      · rw [e]; exact tq
      · obtain ⟨g1, g2⟩ := sts_fe (L := L) (n := n) (Z := Z) i (pos L n Z i)
        have hr : ¬ ((sts L n Z i).now (pos L n Z i)).e - ((sts L n Z i).now (pos L n Z i)).t < Z i := to_room (by show pos L n Z i < n; omega) (sts_k i)
        have hs := rise_sep h.rise (q := pos L n Z i) (r := sp i) (by omega) n1
        rw [g2] at hr
        omega
    refine ⟨fun j hj => ?_, fun hm => ?_⟩
    · rcases (by omega : j < i ∨ j = i) with hj | rfl
      · exact ih1 j hj
      · exact ⟨hst, hpl⟩
    · obtain ⟨m1, m2⟩ := h.next i hm
      rw [sts_kpos]
      refine ⟨by omega, fun q hq => ?_, fun e => ?_⟩
      · rw [sts_t, if_neg (by omega)]
        exact k2 q (by omega)
      · have e2 : pos L n Z i = sp i := by omega
        rw [sts_t, if_pos e.symm, ← e, e2]
        omega
theorem Items.well {L : Nat → Sp} {n : Nat} {Z : Nat → Int} {m : Nat} {s : Nat → Int} {sp : Nat → Nat} (h : Items L n Z m s sp) : Well L n Z m :=
  ⟨h.rise, h.big, fun j hj => ((h.greedy m (Nat.le_refl _)).1 j hj).1⟩
/-- None goes to a greater address. -/
theorem Items.le {L : Nat → Sp} {n : Nat} {Z : Nat → Int} {m : Nat} {s : Nat → Int} {sp : Nat → Nat} (h : Items L n Z m s sp) {i : Nat} (hi : i < m) : (sts L n Z m).out.getD i 0 ≤ s i := by
  rw [sts_outv m i hi]
  exact ((h.greedy m (Nat.le_refl _)).1 i hi).2

end Go.Proofs.YtkjgfblkbjlohaaGreat
