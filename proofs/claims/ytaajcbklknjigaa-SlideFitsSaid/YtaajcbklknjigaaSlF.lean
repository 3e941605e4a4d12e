/- Slide: what holds of a plan, plain. -/
import Derived.Test.YtaajcbklknjigaaSlA
namespace Go.Proofs.Ytaajcbklknjigaa
open Go.RowKit

section
variable {L : Nat → Sp} {n : Nat} {Z : Nat → Int} {m : Nat}
def pos (L : Nat → Sp) (n : Nat) (Z : Nat → Int) (i : Nat) : Nat := to n (sts L n Z i) (Z i)
theorem sts_now (i q : Nat) : (sts L n Z (i + 1)).now q = if q = pos L n Z i then { (sts L n Z i).now q with t := ((sts L n Z i).now q).t + Z i } else (sts L n Z i).now q := by
  show setS (sts L n Z i).now (to n (sts L n Z i) (Z i)) _ q = _
  unfold setS pos
  by_cases e : q = to n (sts L n Z i) (Z i)
  · rw [if_pos e, if_pos e, e]
  · rw [if_neg e, if_neg e]
theorem sts_fe : ∀ i q, ((sts L n Z i).now q).f = (L q).f ∧ ((sts L n Z i).now q).e = (L q).e
  | 0, q => ⟨rfl, rfl⟩
  | i + 1, q => by
    rw [sts_now]
    split
    · exact sts_fe i q
    · exact sts_fe i q
theorem sts_t (i q : Nat) : ((sts L n Z (i + 1)).now q).t = if q = pos L n Z i then ((sts L n Z i).now q).t + Z i else ((sts L n Z i).now q).t := by
  rw [sts_now]; split <;> rfl
theorem sts_mono (hZ : ∀ j, j < m → 1 ≤ Z j) (q i : Nat) : ∀ d, i + d ≤ m → ((sts L n Z i).now q).t ≤ ((sts L n Z (i + d)).now q).t
  | 0, _ => Int.le_refl _
  | d + 1, h => by
    have ih := sts_mono hZ q i d (by omega)
    have hz := hZ (i + d) (by omega)
    rw [← Nat.add_assoc, sts_t]
    split <;> omega
theorem sts_kpos (i : Nat) : (sts L n Z (i + 1)).k = pos L n Z i := rfl
theorem pos_ge (i : Nat) : (sts L n Z i).k ≤ pos L n Z i := to_ge
theorem pos_lt (hs : ∀ j, j < m → ¬ Stuck L n Z j) {i : Nat} (hi : i < m) : pos L n Z i < n :=
  Nat.lt_of_le_of_ne (to_le (sts_k i)) (hs i hi)
theorem sts_outv : ∀ i j, j < i → (sts L n Z i).out.getD j 0 = ((sts L n Z j).now (pos L n Z j)).t
  | 0, j, h => by omega
  | i + 1, j, h => by
    show ((sts L n Z i).out ++ [_]).getD j 0 = _
    have hl := sts_out (L := L) (n := n) (Z := Z) i
    by_cases e : j < i
    · rw [List.getD_eq_getElem?_getD, List.getElem?_append_left (by omega), ← List.getD_eq_getElem?_getD]
      exact sts_outv i j e
    · have : j = i := by omega
      subst this
      rw [List.getD_eq_getElem?_getD, List.getElem?_append_right (by omega), hl]
      simp [pos]
theorem rise_lt (hL : Rise L n) : ∀ d q, q + 1 + d < n → (L q).e ≤ (L (q + 1 + d)).f
  | 0, q, h => (hL (q + 1) h).2
  | d + 1, q, h => by
    have ih := rise_lt hL d q (by omega)
    have h1 := (rightB_iff _).1 (hL (q + 1 + d) (by omega)).1
    have h2 : (L (q + 1 + d)).e ≤ (L (q + 1 + d + 1)).f := (hL (q + 1 + d + 1) h).2
    show (L q).e ≤ (L (q + 1 + d + 1)).f
    omega
theorem rise_sep (hL : Rise L n) {q r : Nat} (h : q < r) (hr : r < n) : (L q).e ≤ (L r).f := by
  obtain ⟨d, rfl⟩ : ∃ d, r = q + 1 + d := ⟨r - (q + 1), by omega⟩
  exact rise_lt hL d q hr

/-- The facts on a plan that came out well. -/
structure Well (L : Nat → Sp) (n : Nat) (Z : Nat → Int) (m : Nat) : Prop where
  rise : Rise L n
  big : ∀ j, j < m → 1 ≤ Z j
  free : ∀ j, j < m → ¬ Stuck L n Z j
variable (W : Well L n Z m)
include W
theorem Well.bd {i q : Nat} (hi : i ≤ m) (hq : q < n) : 0 ≤ (L q).f ∧ (L q).f ≤ ((sts L n Z i).now q).t ∧ ((sts L n Z i).now q).t ≤ (L q).e ∧ (L q).e ≤ 4096 := by
  have := (rightB_iff _).1 (sts_right W.rise W.big i hi (fun j h => W.free j (by omega)) q hq)
  have h2 := sts_fe (L := L) (n := n) (Z := Z) i q
  omega
/-- Where an object lies. -/
theorem Well.lies {i : Nat} (hi : i < m) : pos L n Z i < n ∧ (L (pos L n Z i)).f ≤ (sts L n Z m).out.getD i 0 ∧ (sts L n Z m).out.getD i 0 + Z i ≤ ((sts L n Z m).now (pos L n Z i)).t := by
  have hp := pos_lt W.free hi
  rw [sts_outv m i hi]
  have h1 := W.bd (i := i) (by omega) hp
  have h2 := sts_mono (L := L) (n := n) W.big (pos L n Z i) (i + 1) (m - (i + 1)) (by omega)
  rw [show i + 1 + (m - (i + 1)) = m from by omega, sts_t, if_pos rfl] at h2
  exact ⟨hp, h1.2.1, h2⟩
theorem Well.next {i : Nat} (h0 : 0 < i) (hi : i < m) : (sts L n Z m).out.getD (i - 1) 0 + Z (i - 1) ≤ (sts L n Z m).out.getD i 0 := by
  obtain ⟨i, rfl⟩ : ∃ j, i = j + 1 := ⟨i - 1, by omega⟩
  rw [Nat.add_sub_cancel, sts_outv m i (by omega), sts_outv m (i + 1) hi]
  have hp := pos_lt W.free (i := i) (by omega)
  have hp' := pos_lt W.free hi
  have hg : pos L n Z i ≤ pos L n Z (i + 1) := pos_ge (i + 1)
  have ht := sts_t (L := L) (n := n) (Z := Z) i (pos L n Z i)
  rw [if_pos rfl] at ht
  by_cases e : pos L n Z (i + 1) = pos L n Z i
  · rw [e, ht]; exact Int.le_refl _
  · have h1 := rise_sep W.rise (q := pos L n Z i) (r := pos L n Z (i + 1)) (by omega) hp'
    have h2 := W.bd (i := i + 1) (by omega) hp
    have h3 := W.bd (i := i + 1) (by omega) hp'
    omega
/-- Is an address taken in a space? -/
def hasB (s : Sp) (x : Int) : Bool := rightB s && (decide (s.f ≤ x) && decide (x < s.t))
omit W in
theorem hasB_iff (s : Sp) (x : Int) : hasB s x = true ↔ rightB s = true ∧ s.f ≤ x ∧ x < s.t := by simp [hasB]
theorem Well.right {q : Nat} (hq : q < n) : rightB ((sts L n Z m).now q) = true := sts_right W.rise W.big m (Nat.le_refl _) W.free q hq
/-- An object is in its space, and in no other. -/
theorem Well.one {i q : Nat} (hi : i < m) (hq : q < n) : (hasB ((sts L n Z m).now q) ((sts L n Z m).out.getD i 0) && hasB ((sts L n Z m).now q) ((sts L n Z m).out.getD i 0 + Z i - 1)) = decide (q = pos L n Z i) := by
  obtain ⟨h1, h2, h3⟩ := W.lies hi
  have hz := W.big i hi
  have hfe := sts_fe (L := L) (n := n) (Z := Z) m q
  have hr := W.right hq
  have hb := W.bd (i := m) (Nat.le_refl _) hq
  have hb' := W.bd (i := m) (Nat.le_refl _) h1
  by_cases e : q = pos L n Z i
  · subst e
    rw [decide_eq_true rfl, Bool.and_eq_true, hasB_iff, hasB_iff]
    exact ⟨⟨hr, by omega, by omega⟩, hr, by omega, by omega⟩
  · rw [decide_eq_false e, Bool.and_eq_false_iff]
    refine .inl ?_
    rw [Bool.eq_false_iff]
    intro k
    obtain ⟨_, k1, k2⟩ := (hasB_iff _ _).1 k
    rcases Nat.lt_or_gt_of_ne e with h | h
    · have := rise_sep W.rise h h1; omega
    · have := rise_sep W.rise h hq; omega
end
/-- Sums. -/
def sumZ (Z : Nat → Int) : Nat → Int
  | 0 => 0
  | i + 1 => sumZ Z i + Z i
def used (now : Nat → Sp) : Nat → Int
  | 0 => 0
  | q + 1 => used now q + ((now q).t - (now q).f)
theorem used_congr {a b : Nat → Sp} : ∀ n, (∀ q, q < n → a q = b q) → used a n = used b n
  | 0, _ => rfl
  | n + 1, h => by unfold used; rw [used_congr n (fun q hq => h q (by omega)), h n (by omega)]
theorem used_set (now : Nat → Sp) (k : Nat) (s : Sp) : ∀ n, k < n → used (setS now k s) n = used now n + ((s.t - s.f) - ((now k).t - (now k).f))
  | 0, h => by omega
  | n + 1, h => by
    unfold used
    by_cases e : k = n
    · subst e
      rw [used_congr k (b := now) (fun q hq => by unfold setS; rw [if_neg (by omega)])]
      unfold setS
      rw [if_pos rfl]
      omega
    · rw [used_set now k s n (by omega)]
      unfold setS
      rw [if_neg (by omega)]
      omega
theorem used_sum {L : Nat → Sp} {n : Nat} {Z : Nat → Int} {m : Nat} (W : Well L n Z m) : ∀ i, i ≤ m → used (sts L n Z i).now n = sumZ Z i
  | 0, _ => by
    show used (fun i => emp (L i)) n = 0
    have : ∀ n, used (fun i => emp (L i)) n = 0 := fun n => by
      induction n with
      | zero => rfl
      | succ n ih => unfold used; rw [ih]; simp [emp]
    exact this n
  | i + 1, h => by
    have ih := used_sum W i (by omega)
    have hp := pos_lt W.free (i := i) (by omega)
    show used (setS (sts L n Z i).now (pos L n Z i) _) n = sumZ Z i + Z i
    rw [used_set _ _ _ n hp, ih]
    dsimp only
    unfold pos
    omega
theorem sum_bd {Z : Nat → Int} {m : Nat} (h : ∀ j, j < m → 1 ≤ Z j ∧ Z j ≤ 4096) : ∀ i, i ≤ m → 0 ≤ sumZ Z i ∧ sumZ Z i ≤ 4096 * i
  | 0, _ => by simp [sumZ]
  | i + 1, hi => by
    have ih := sum_bd h i (by omega)
    have := h i (by omega)
    unfold sumZ
    omega
theorem Well.z {L : Nat → Sp} {n : Nat} {Z : Nat → Int} {m : Nat} (W : Well L n Z m) : ∀ j, j < m → 1 ≤ Z j ∧ Z j ≤ 4096 := by
  intro j hj
  obtain ⟨h1, h2, h3⟩ := W.lies hj
  have := W.bd (i := m) (Nat.le_refl _) h1
  have := W.big j hj
  omega

end Go.Proofs.Ytaajcbklknjigaa
