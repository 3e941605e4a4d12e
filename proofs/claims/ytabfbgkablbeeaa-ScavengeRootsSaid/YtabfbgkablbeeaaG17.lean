/- Slide: what holds of a plan, plain. -/
import Derived.Test.YtabfbgkablbeeaaG02
set_option linter.all false

namespace Go.Proofs.Ytabfbgkablbeeaa
open Go.RowKit

structure Sp where
  f : Int
  t : Int
  e : Int
/-- Spaces as cells. -/
def spF (L : Nat → Sp) : Nat → Value := fun j => if j % 3 = 0 then .int .i64 (L (j / 3)).f else if j % 3 = 1 then .int .i64 (L (j / 3)).t else .int .i64 (L (j / 3)).e
def InI (x : Int) : Prop := -9223372036854775808 ≤ x ∧ x ≤ 9223372036854775807
def InSp (L : Nat → Sp) (n : Nat) : Prop := ∀ i, i < n → InI (L i).f ∧ InI (L i).t ∧ InI (L i).e
def agg (s : Sp) : Value := .agg #[.int .i64 s.f, .int .i64 s.t, .int .i64 s.e]
def rightB (s : Sp) : Bool := decide (0 ≤ s.f) && (decide (s.f ≤ s.t) && (decide (s.t ≤ s.e) && decide (s.e ≤ 4096)))
theorem rightB_iff (s : Sp) : rightB s = true ↔ 0 ≤ s.f ∧ s.f ≤ s.t ∧ s.t ≤ s.e ∧ s.e ≤ 4096 := by simp [rightB]
theorem rightB_no (s : Sp) (h : ¬ (0 ≤ s.f ∧ s.f ≤ s.t ∧ s.t ≤ s.e ∧ s.e ≤ 4096)) : rightB s = false := by
  rw [Bool.eq_false_iff]; exact fun k => h ((rightB_iff s).1 k)
/-- What is the end behind i spaces. -/
def endAt (L : Nat → Sp) : Nat → Int
  | 0 => 1
  | i + 1 => (L i).e
def Rise (L : Nat → Sp) (n : Nat) : Prop := ∀ i, i < n → rightB (L i) = true ∧ endAt L i ≤ (L i).f
/-- A space with nothing taken. -/
def emp (s : Sp) : Sp := ⟨s.f, s.f, s.e⟩
def seek (now : Nat → Sp) (z : Int) : Nat → Nat → Nat
  | 0, k => k
  | m + 1, k => if (now k).e - (now k).t < z then seek now z m (k + 1) else k
def setS (now : Nat → Sp) (k : Nat) (s : Sp) : Nat → Sp := fun j => if j = k then s else now j
structure PS where
  out : List Int
  now : Nat → Sp
  k : Nat
def to (n : Nat) (s : PS) (z : Int) : Nat := seek s.now z (n - s.k) s.k
def stepP (n : Nat) (s : PS) (z : Int) : PS :=
  ⟨s.out ++ [(s.now (to n s z)).t], setS s.now (to n s z) { s.now (to n s z) with t := (s.now (to n s z)).t + z }, to n s z⟩
def sts (L : Nat → Sp) (n : Nat) (Z : Nat → Int) : Nat → PS
  | 0 => ⟨[], fun i => emp (L i), 0⟩
  | i + 1 => stepP n (sts L n Z i) (Z i)
def Stuck (L : Nat → Sp) (n : Nat) (Z : Nat → Int) (i : Nat) : Prop := to n (sts L n Z i) (Z i) = n
theorem seek_ge (now : Nat → Sp) (z : Int) : ∀ m k, k ≤ seek now z m k
  | 0, k => Nat.le_refl k
  | m + 1, k => by
    unfold seek
    split
    · have := seek_ge now z m (k + 1); omega
    · exact Nat.le_refl k
theorem seek_le (now : Nat → Sp) (z : Int) : ∀ m k, seek now z m k ≤ k + m
  | 0, k => Nat.le_refl k
  | m + 1, k => by
    unfold seek
    split
    · have := seek_le now z m (k + 1); omega
    · omega
/-- There is no room up to a place: it is sought from there. -/
theorem seek_on (now : Nat → Sp) (z : Int) : ∀ m k j, k ≤ j → j ≤ k + m → (∀ i, k ≤ i → i < j → (now i).e - (now i).t < z) → seek now z m k = seek now z (k + m - j) j
  | m, k, j, h1, h2, h => by
    by_cases e : j = k
    · subst e; rw [show j + m - j = m from by omega]
    · cases m with
      | zero => omega
      | succ m =>
        have := h k (Nat.le_refl k) (by omega)
        rw [show seek now z (m + 1) k = seek now z m (k + 1) from by rw [seek, if_pos this]]
        rw [seek_on now z m (k + 1) j (by omega) (by omega) (fun i a b => h i (by omega) b)]
        congr 1
        omega
theorem seek_hit (now : Nat → Sp) (z : Int) (m k : Nat) (h : ¬ (now k).e - (now k).t < z) : seek now z m k = k := by
  cases m with
  | zero => rfl
  | succ m => rw [seek, if_neg h]
theorem seek_room (now : Nat → Sp) (z : Int) : ∀ m k, seek now z m k < k + m → ¬ (now (seek now z m k)).e - (now (seek now z m k)).t < z
  | 0, k, h => by simp [seek] at h
  | m + 1, k, h => by
    unfold seek at h ⊢
    split
    · rename_i q; rw [if_pos q] at h; exact seek_room now z m (k + 1) (by omega)
    · assumption
/-- A place that the search reaches. -/
theorem to_hit {n : Nat} {s : PS} {z : Int} {j : Nat} (h1 : s.k ≤ j) (h2 : j < n) (h : ∀ i, s.k ≤ i → i < j → (s.now i).e - (s.now i).t < z) (hr : ¬ (s.now j).e - (s.now j).t < z) : to n s z = j := by
  unfold to
  rw [seek_on s.now z _ _ j h1 (by omega) h, seek_hit _ _ _ _ hr]
theorem to_none {n : Nat} {s : PS} {z : Int} (h1 : s.k ≤ n) (h : ∀ i, s.k ≤ i → i < n → (s.now i).e - (s.now i).t < z) : to n s z = n := by
  unfold to
  rw [seek_on s.now z _ _ n h1 (by omega) h]
  rw [show s.k + (n - s.k) - n = 0 from by omega]
  rfl
theorem to_le {n : Nat} {s : PS} {z : Int} (h1 : s.k ≤ n) : to n s z ≤ n := by
  unfold to; have := seek_le s.now z (n - s.k) s.k; omega
theorem to_ge {n : Nat} {s : PS} {z : Int} : s.k ≤ to n s z := seek_ge _ _ _ _
theorem to_room {n : Nat} {s : PS} {z : Int} (h : to n s z < n) (h1 : s.k ≤ n) : ¬ (s.now (to n s z)).e - (s.now (to n s z)).t < z := by
  unfold to at h ⊢
  exact seek_room _ _ _ _ (by omega)
theorem sts_k {L : Nat → Sp} {n : Nat} {Z : Nat → Int} : ∀ i, (sts L n Z i).k ≤ n
  | 0 => Nat.zero_le _
  | i + 1 => to_le (sts_k i)
/-- All spaces stay right. -/
theorem sts_right {L : Nat → Sp} {n : Nat} {Z : Nat → Int} (hL : Rise L n) {m : Nat} (hZ : ∀ j, j < m → 1 ≤ Z j) : ∀ i, i ≤ m → (∀ j, j < i → ¬ Stuck L n Z j) → ∀ q, q < n → rightB ((sts L n Z i).now q) = true
  | 0, _, _, q, hq => by
    have := (rightB_iff _).1 (hL q hq).1
    rw [rightB_iff]
    simp only [sts, emp]
    omega
  | i + 1, hi, hs, q, hq => by
    have ih := sts_right hL hZ i (by omega) (fun j h => hs j (by omega)) q hq
    have h1 := hs i (by omega)
    have h2 := to_le (z := Z i) (sts_k (L := L) (n := n) (Z := Z) i)
    have h3 := to_room (z := Z i) (Nat.lt_of_le_of_ne h2 h1) (sts_k (L := L) (n := n) (Z := Z) i)
    have h4 := hZ i (by omega)
    show rightB (setS (sts L n Z i).now (to n (sts L n Z i) (Z i)) _ q) = true
    unfold setS
    by_cases e : q = to n (sts L n Z i) (Z i)
    · rw [if_pos e]
      rw [e] at ih
      rw [rightB_iff] at ih ⊢
      dsimp only
      omega
    · rw [if_neg e]; exact ih
theorem sts_out {L : Nat → Sp} {n : Nat} {Z : Nat → Int} : ∀ i, (sts L n Z i).out.length = i
  | 0 => rfl
  | i + 1 => by show ((sts L n Z i).out ++ [_]).length = _; rw [List.length_append, sts_out i]; rfl

/-- What is planned. -/
def PlanIs (L : Nat → Sp) (n : Nat) (Z : Nat → Int) (m : Nat) (out : List Int) (k : Nat) (now : Nat → Sp) (err : Int) : Prop :=
  (err = 1 ∧ out = [] ∧ k = 0 ∧ ¬ (Rise L n ∧ ∀ j, j < m → 1 ≤ Z j)) ∨
  (err = 3 ∧ out = [] ∧ k = 0 ∧ (Rise L n ∧ ∀ j, j < m → 1 ≤ Z j) ∧ ∃ i, i < m ∧ Stuck L n Z i) ∨
  (err = 0 ∧ out = (sts L n Z m).out ∧ k = n ∧ now = (sts L n Z m).now ∧ (Rise L n ∧ ∀ j, j < m → 1 ≤ Z j) ∧ ∀ i, i < m → ¬ Stuck L n Z i)
theorem PlanIs.same {L : Nat → Sp} {n : Nat} {Z : Nat → Int} {m : Nat} {out out' : List Int} {k k' : Nat} {now now' : Nat → Sp} {err err' : Int}
    (h : PlanIs L n Z m out k now err) (h' : PlanIs L n Z m out' k' now' err') : err = err' ∧ out = out' ∧ k = k' ∧ ∀ i, i < k → now i = now' i := by
  rcases h with ⟨rfl, rfl, rfl, a⟩ | ⟨rfl, rfl, rfl, a, i, b, c⟩ | ⟨rfl, rfl, rfl, rfl, a, b⟩ <;>
  rcases h' with ⟨rfl, rfl, rfl, a'⟩ | ⟨rfl, rfl, rfl, a', i', b', c'⟩ | ⟨rfl, rfl, rfl, rfl, a', b'⟩
  · exact ⟨rfl, rfl, rfl, fun i h => by omega⟩
  · exact absurd a' a
  · exact absurd a' a
  · exact absurd a a'
  · exact ⟨rfl, rfl, rfl, fun i h => by omega⟩
  · exact absurd c (b' i b)
  · exact absurd a a'
  · exact absurd c' (b i' b')
  · exact ⟨rfl, rfl, rfl, fun i _ => rfl⟩

theorem Rd.sp {w : World} {A : Option Addr} {m k : Nat} {L : Nat → Sp} (h : Rd w A (m * 3) (spF L)) (hk : k < m) :
    ∃ b off, A = some ⟨b, off, none⟩ ∧ w.cell? ⟨b, off + k * 3, none⟩ = some (.int .i64 (L k).f) ∧ w.cell? ⟨b, off + k * 3 + 1, none⟩ = some (.int .i64 (L k).t) ∧
      w.cell? ⟨b, off + k * 3 + 2, none⟩ = some (.int .i64 (L k).e) := by
  obtain ⟨b, off, e, hc⟩ := h.at_ hk (by omega)
  have d0 : (k * 3) / 3 = k := by omega
  have d1 : (k * 3 + 1) / 3 = k := by omega
  have d2 : (k * 3 + 2) / 3 = k := by omega
  have m1 : (k * 3 + 1) % 3 = 1 := by omega
  have m2 : (k * 3 + 2) % 3 = 2 := by omega
  refine ⟨b, off, e, ?_, ?_, ?_⟩
  · have := hc 0 (by omega); simpa [spF] using this
  · have := hc 1 (by omega); simpa [spF, d1, m1] using this
  · have := hc 2 (by omega); simpa [spF, d2, m2] using this

/-- A row of spaces of the call's own. -/
def spc (F : Nat → Sp) (i : Nat) : List Value := [.int .i64 (F i).f, .int .i64 (F i).t, .int .i64 (F i).e]
def spcs (F : Nat → Sp) (n : Nat) : List Value := (List.range n).flatMap (spc F)
theorem spcs_snoc (F : Nat → Sp) (n : Nat) : spcs F (n + 1) = spcs F n ++ spc F n := by simp [spcs, List.range_succ]
theorem spcs_len (F : Nat → Sp) : ∀ n, (spcs F n).length = n * 3
  | 0 => rfl
  | n + 1 => by rw [spcs_snoc, List.length_append, spcs_len F n]; simp [spc]; omega
theorem spcs_get (F : Nat → Sp) : ∀ n j, j < n * 3 → (spcs F n)[j]? = some (spF F j)
  | 0, j, h => by omega
  | n + 1, j, h => by
    rw [spcs_snoc]
    by_cases q : j < n * 3
    · rw [List.getElem?_append_left (by rw [spcs_len]; exact q)]; exact spcs_get F n j q
    · rw [List.getElem?_append_right (by rw [spcs_len]; omega), spcs_len]
      have hd : j / 3 = n := by omega
      unfold spF spc
      rw [hd]
      rcases (by omega : j = n * 3 ∨ j = n * 3 + 1 ∨ j = n * 3 + 2) with e | e | e
      · rw [if_pos (by omega), e]; simp
      · rw [if_neg (by omega), if_pos (by omega), e]; simp
      · rw [if_neg (by omega), if_neg (by omega), e]; simp
def OwnSp (T : TypeId) (w : World) (base : Nat) (v : Value) (F : Nat → Sp) (n : Nat) : Prop := w.ownsRow base T 3 v n (spcs F n)
theorem OwnSp.nil_ (T : TypeId) (w : World) (base : Nat) (F : Nat → Sp) : OwnSp T w base (.slice none 0 0) F 0 := World.ownsRow_nil _ _ _ _
theorem OwnSp.form {T : TypeId} {w : World} {base : Nat} {v : Value} {F : Nat → Sp} {n : Nat} (h : OwnSp T w base v F n) : ∃ ad cap, v = .slice ad n cap := by
  rcases h.2 with ⟨rfl, h0⟩ | ⟨g, cap, cur, rfl, _⟩
  · exact ⟨none, 0, by rw [h0]⟩
  · exact ⟨_, _, rfl⟩
theorem OwnSp.lt {T : TypeId} {w : World} {base : Nat} {v : Value} {F : Nat → Sp} {n : Nat} (h : OwnSp T w base v F n) : ∀ k, v.ownBlock = some k → base ≤ k ∧ k < w.heap.size := World.ownsRow.lt h
theorem OwnSp.touch {T : TypeId} {w w' : World} {base : Nat} {v : Value} {F : Nat → Sp} {n : Nat} {S : Nat → Prop} (h : OwnSp T w base v F n) (ht : Touch S w w') (hs : ∀ k, v.ownBlock = some k → ¬ S k) : OwnSp T w' base v F n := by
  unfold OwnSp at *
  refine ⟨h.1, ?_⟩
  rcases h.2 with hn | ⟨g, cap, cur, rfl, hb, hgg, rest⟩
  · exact .inl hn
  · refine .inr ⟨g, cap, cur, rfl, hb, ?_, rest⟩
    rw [ht.block g (Array.getElem?_eq_some_iff.1 hgg).1 (hs g rfl)]
    exact hgg
theorem OwnSp.rd {T : TypeId} {w : World} {base : Nat} {ad : Option Addr} {cap : Nat} {F : Nat → Sp} {n : Nat} (h : OwnSp T w base (.slice ad n cap) F n) :
    Rd w ad (n * 3) (spF F) ∧ ∀ b off, ad = some ⟨b, off, none⟩ → base ≤ b ∧ b < w.heap.size := by
  refine ⟨fun hn => ?_, fun b off e => ?_⟩
  · rcases h.2 with ⟨_, h0⟩ | ⟨g, cap', cur, hv, hb, hgg, _⟩
    · omega
    · simp only [Value.slice.injEq] at hv
      obtain ⟨rfl, _, _⟩ := hv
      refine ⟨g, 0, rfl, (Array.getElem?_eq_some_iff.1 hgg).1, fun j hj => ?_⟩
      have hc := World.ownsRow.cells h (g := g) rfl j (spF F j) (spcs_get F n j hj)
      rw [add_plain] at hc
      exact hc
  · subst e
    exact World.ownsRow.lt h b rfl
/-- .. as a block that may be written. -/
theorem OwnSp.blk {T : TypeId} {w : World} {base : Nat} {v : Value} {F : Nat → Sp} {n : Nat} (h : OwnSp T w base v F n) (hn : 0 < n) :
    ∃ g cap f, v = .slice (some ⟨g, 0, none⟩) n cap ∧ base ≤ g ∧ n ≤ cap ∧ Blk w g T (cap * 3) f ∧ ∀ j, j < n * 3 → f j = spF F j := by
  rcases h.2 with ⟨_, h0⟩ | ⟨g, cap, cur, hv, hb, hgg, h1, h2, h3⟩
  · omega
  · subst hv
    refine ⟨g, cap, fun j => cur.getD j (.bool false), rfl, hb, h1, ?_, fun j hj => ?_⟩
    · unfold Blk
      rw [hgg]
      have : cur = Array.ofFn (n := cap * 3) fun j => cur.getD j.val (.bool false) := by
        apply Array.ext
        · simp [h3.1]
        · intro i a b
          simp [Array.getD, a]
      rw [← this]
    · have hx := spcs_get F n j hj
      have hl : n * 3 ≤ cap * 3 := Nat.mul_le_mul_right 3 h1
      have hj' : j < cur.size := by rw [h3.1]; omega
      rw [← h3.2, List.getElem?_take, if_pos hj, Array.getElem?_toList, Array.getElem?_eq_getElem hj'] at hx
      simp only [Array.getD, hj', dite_true]
      exact Option.some.inj hx
/-- One space more. -/
theorem app_sp {T S : TypeId} (hS : Try.prog.underlying S = some (.slice T)) (info : (Try.prog.info? T).map (fun i => (i.zero, i.size, i.bytes)) = some (some (.agg #[.int .i64 0, .int .i64 0, .int .i64 0]), 3, 24))
    {ops : Array Oper} {rest : List Oper} {o : Oper} {a : Act} {Q : Exit → Act → World → Prop} {w : World} (hgd : o.guard = none) (s x : Operand)
    (ho : o.op = .call { callee := .builtin .append, args := #[s, x], argTypes := #[S, S] })
    (base : Nat) (v : Value) (F : Nat → Sp) (n : Nat) (hown : OwnSp T w base v F n) (hs : a.eval s = v) (N : Nat) (hx : a.eval x = .slice (some ⟨N, 0, none⟩) 1 1)
    (hc0 : w.cell? ⟨N, 0, none⟩ = some (.int .i64 (F n).f)) (hc1 : w.cell? ⟨N, 1, none⟩ = some (.int .i64 (F n).t)) (hc2 : w.cell? ⟨N, 2, none⟩ = some (.int .i64 (F n).e)) (hl : n ≤ 1000000) (hbase : base ≤ w.heap.size)
    (h : ∀ v' w', OwnSp T w' base v' F (n + 1) → w.grownBy w' v.ownBlock → (v'.ownBlock = v.ownBlock ∨ v'.ownBlock = some w.heap.size) → wpList Try.prog ops Q rest (a.put o.dst v') w') :
    wpList Try.prog ops Q (o :: rest) a w := by
  obtain ⟨i0, hi, hz0, hz1, hz2⟩ := info_parts info
  refine wpList_append_own_at w hgd s x _ ho base T i0 _ 3 24 hS hi hz0 hz1 hz2 rfl (by decide) v n (spcs F n) hs hown ⟨N, 0, none⟩ 1 1 (spc F n) hx rfl ?_ ?_ ?_ ?_ hbase ?_
  · intro j u hu
    match j, hu with
    | 0, hu => simp [spc] at hu; subst hu; rw [add_zero_]; exact hc0
    | 1, hu => simp [spc] at hu; subst hu; rw [add_plain]; exact hc1
    | 2, hu => simp [spc] at hu; subst hu; rw [add_plain]; exact hc2
    | j + 3, hu => simp [spc] at hu
  · simp [Value.oneCell', spc]
  · unfold maxLen; omega
  · omega
  · intro v' w' h1 h2 _ h4
    refine h v' w' ?_ h2 h4
    unfold OwnSp
    rw [spcs_snoc]
    exact h1

end Go.Proofs.Ytabfbgkablbeeaa

namespace Go.Proofs.Ytabfbgkablbeeaa
open Go.RowKit

section
variable {L : Nat → Sp} {n : Nat} {Z : Nat → Int} {m : Nat}
def pos (L : Nat → Sp) (n : Nat) (Z : Nat → Int) (i : Nat) : Nat := to n (sts L n Z i) (Z i)
theorem sts_now (i q : Nat) : (sts L n Z (i + 1)).now q = if q = pos L n Z i then { (sts L n Z i).now q with t := ((sts L n Z i).now q).t + Z i } else (sts L n Z i).now q := by
  show setS (sts L n Z i).now (to n (sts L n Z i) (Z i)) _ q = _
  unfold setS pos
  by_cases e : q = to n (sts L n Z i) (Z i)
  · rw [if_pos e, if_pos e, e]
  · rw [if_neg e, if_neg e]
theorem sts_fe : ∀ i q, ((sts L n Z i).now q).f = (L q).f ∧ ((sts L n Z i).now q).e = (L q).e
  | 0, q => ⟨rfl, rfl⟩
  | i + 1, q => by
    rw [sts_now]
    split
    · exact sts_fe i q
    · exact sts_fe i q
theorem sts_t (i q : Nat) : ((sts L n Z (i + 1)).now q).t = if q = pos L n Z i then ((sts L n Z i).now q).t + Z i else ((sts L n Z i).now q).t := by
  rw [sts_now]; split <;> rfl
theorem sts_mono (hZ : ∀ j, j < m → 1 ≤ Z j) (q i : Nat) : ∀ d, i + d ≤ m → ((sts L n Z i).now q).t ≤ ((sts L n Z (i + d)).now q).t
  | 0, _ => Int.le_refl _
  | d + 1, h => by
    have ih := sts_mono hZ q i d (by omega)
    have hz := hZ (i + d) (by omega)
    rw [← Nat.add_assoc, sts_t]
    split <;> omega
theorem sts_kpos (i : Nat) : (sts L n Z (i + 1)).k = pos L n Z i := rfl
theorem pos_ge (i : Nat) : (sts L n Z i).k ≤ pos L n Z i := to_ge
theorem pos_lt (hs : ∀ j, j < m → ¬ Stuck L n Z j) {i : Nat} (hi : i < m) : pos L n Z i < n :=
  Nat.lt_of_le_of_ne (to_le (sts_k i)) (hs i hi)
theorem sts_outv : ∀ i j, j < i → (sts L n Z i).out.getD j 0 = ((sts L n Z j).now (pos L n Z j)).t
  | 0, j, h => by omega
  | i + 1, j, h => by
    show ((sts L n Z i).out ++ [_]).getD j 0 = _
    have hl := sts_out (L := L) (n := n) (Z := Z) i
    by_cases e : j < i
    · rw [List.getD_eq_getElem?_getD, List.getElem?_append_left (by omega), ← List.getD_eq_getElem?_getD]
      exact sts_outv i j e
    · have : j = i := by omega
      subst this
      rw [List.getD_eq_getElem?_getD, List.getElem?_append_right (by omega), hl]
      simp [pos]
theorem rise_lt (hL : Rise L n) : ∀ d q, q + 1 + d < n → (L q).e ≤ (L (q + 1 + d)).f
  | 0, q, h => (hL (q + 1) h).2
  | d + 1, q, h => by
    have ih := rise_lt hL d q (by omega)
    have h1 := (rightB_iff _).1 (hL (q + 1 + d) (by omega)).1
    have h2 : (L (q + 1 + d)).e ≤ (L (q + 1 + d + 1)).f := (hL (q + 1 + d + 1) h).2
    show (L q).e ≤ (L (q + 1 + d + 1)).f
    omega
theorem rise_sep (hL : Rise L n) {q r : Nat} (h : q < r) (hr : r < n) : (L q).e ≤ (L r).f := by
  obtain ⟨d, rfl⟩ : ∃ d, r = q + 1 + d := ⟨r - (q + 1), by omega⟩
  exact rise_lt hL d q hr

/-- The facts on a plan that came out well. -/
structure Well (L : Nat → Sp) (n : Nat) (Z : Nat → Int) (m : Nat) : Prop where
  rise : Rise L n
  big : ∀ j, j < m → 1 ≤ Z j
  free : ∀ j, j < m → ¬ Stuck L n Z j
variable (W : Well L n Z m)
include W
theorem Well.bd {i q : Nat} (hi : i ≤ m) (hq : q < n) : 0 ≤ (L q).f ∧ (L q).f ≤ ((sts L n Z i).now q).t ∧ ((sts L n Z i).now q).t ≤ (L q).e ∧ (L q).e ≤ 4096 := by
  have := (rightB_iff _).1 (sts_right W.rise W.big i hi (fun j h => W.free j (by omega)) q hq)
  have h2 := sts_fe (L := L) (n := n) (Z := Z) i q
  omega
/-- Where an object lies. -/
theorem Well.lies {i : Nat} (hi : i < m) : pos L n Z i < n ∧ (L (pos L n Z i)).f ≤ (sts L n Z m).out.getD i 0 ∧ (sts L n Z m).out.getD i 0 + Z i ≤ ((sts L n Z m).now (pos L n Z i)).t := by
  have hp := pos_lt W.free hi
  rw [sts_outv m i hi]
  have h1 := W.bd (i := i) (by omega) hp
  have h2 := sts_mono (L := L) (n := n) W.big (pos L n Z i) (i + 1) (m - (i + 1)) (by omega)
  rw [show i + 1 + (m - (i + 1)) = m from by omega, sts_t, if_pos rfl] at h2
  exact ⟨hp, h1.2.1, h2⟩
theorem Well.next {i : Nat} (h0 : 0 < i) (hi : i < m) : (sts L n Z m).out.getD (i - 1) 0 + Z (i - 1) ≤ (sts L n Z m).out.getD i 0 := by
  obtain ⟨i, rfl⟩ : ∃ j, i = j + 1 := ⟨i - 1, by omega⟩
  rw [Nat.add_sub_cancel, sts_outv m i (by omega), sts_outv m (i + 1) hi]
  have hp := pos_lt W.free (i := i) (by omega)
  have hp' := pos_lt W.free hi
  have hg : pos L n Z i ≤ pos L n Z (i + 1) := pos_ge (i + 1)
  have ht := sts_t (L := L) (n := n) (Z := Z) i (pos L n Z i)
  rw [if_pos rfl] at ht
  by_cases e : pos L n Z (i + 1) = pos L n Z i
  · rw [e, ht]; exact Int.le_refl _
  · have h1 := rise_sep W.rise (q := pos L n Z i) (r := pos L n Z (i + 1)) (by omega) hp'
    have h2 := W.bd (i := i + 1) (by omega) hp
    have h3 := W.bd (i := i + 1) (by omega) hp'
    omega
/-- Is an address taken in a space? -/
def hasB (s : Sp) (x : Int) : Bool := rightB s && (decide (s.f ≤ x) && decide (x < s.t))
omit W in
theorem hasB_iff (s : Sp) (x : Int) : hasB s x = true ↔ rightB s = true ∧ s.f ≤ x ∧ x < s.t := by simp [hasB]
theorem Well.right {q : Nat} (hq : q < n) : rightB ((sts L n Z m).now q) = true := sts_right W.rise W.big m (Nat.le_refl _) W.free q hq
/-- An object is in its space, and in no other. -/
theorem Well.one {i q : Nat} (hi : i < m) (hq : q < n) : (hasB ((sts L n Z m).now q) ((sts L n Z m).out.getD i 0) && hasB ((sts L n Z m).now q) ((sts L n Z m).out.getD i 0 + Z i - 1)) = decide (q = pos L n Z i) := by
  obtain ⟨h1, h2, h3⟩ := W.lies hi
  have hz := W.big i hi
  have hfe := sts_fe (L := L) (n := n) (Z := Z) m q
  have hr := W.right hq
  have hb := W.bd (i := m) (Nat.le_refl _) hq
  have hb' := W.bd (i := m) (Nat.le_refl _) h1
  by_cases e : q = pos L n Z i
  · subst e
    rw [decide_eq_true rfl, Bool.and_eq_true, hasB_iff, hasB_iff]
    exact ⟨⟨hr, by omega, by omega⟩, hr, by omega, by omega⟩
  · rw [decide_eq_false e, Bool.and_eq_false_iff]
    refine .inl ?_
    rw [Bool.eq_false_iff]
    intro k
    obtain ⟨_, k1, k2⟩ := (hasB_iff _ _).1 k
    rcases Nat.lt_or_gt_of_ne e with h | h
    · have := rise_sep W.rise h h1; omega
    · have := rise_sep W.rise h hq; omega
end
/-- Sums. -/
def sumZ (Z : Nat → Int) : Nat → Int
  | 0 => 0
  | i + 1 => sumZ Z i + Z i
def used (now : Nat → Sp) : Nat → Int
  | 0 => 0
  | q + 1 => used now q + ((now q).t - (now q).f)
theorem used_congr {a b : Nat → Sp} : ∀ n, (∀ q, q < n → a q = b q) → used a n = used b n
  | 0, _ => rfl
  | n + 1, h => by unfold used; rw [used_congr n (fun q hq => h q (by omega)), h n (by omega)]
theorem used_set (now : Nat → Sp) (k : Nat) (s : Sp) : ∀ n, k < n → used (setS now k s) n = used now n + ((s.t - s.f) - ((now k).t - (now k).f))
  | 0, h => by omega
  | n + 1, h => by
    unfold used
    by_cases e : k = n
    · subst e
      rw [used_congr k (b := now) (fun q hq => by unfold setS; rw [if_neg (by omega)])]
      unfold setS
      rw [if_pos rfl]
      omega
    · rw [used_set now k s n (by omega)]
      unfold setS
      rw [if_neg (by omega)]
      omega
theorem used_sum {L : Nat → Sp} {n : Nat} {Z : Nat → Int} {m : Nat} (W : Well L n Z m) : ∀ i, i ≤ m → used (sts L n Z i).now n = sumZ Z i
  | 0, _ => by
    show used (fun i => emp (L i)) n = 0
    have : ∀ n, used (fun i => emp (L i)) n = 0 := fun n => by
      induction n with
      | zero => rfl
      | succ n ih => unfold used; rw [ih]; simp [emp]
    exact this n
  | i + 1, h => by
    have ih := used_sum W i (by omega)
    have hp := pos_lt W.free (i := i) (by omega)
    show used (setS (sts L n Z i).now (pos L n Z i) _) n = sumZ Z i + Z i
    rw [used_set _ _ _ n hp, ih]
    dsimp only
    unfold pos
    omega
theorem sum_bd {Z : Nat → Int} {m : Nat} (h : ∀ j, j < m → 1 ≤ Z j ∧ Z j ≤ 4096) : ∀ i, i ≤ m → 0 ≤ sumZ Z i ∧ sumZ Z i ≤ 4096 * i
  | 0, _ => by simp [sumZ]
  | i + 1, hi => by
    have ih := sum_bd h i (by omega)
    have := h i (by omega)
    unfold sumZ
    omega
theorem Well.z {L : Nat → Sp} {n : Nat} {Z : Nat → Int} {m : Nat} (W : Well L n Z m) : ∀ j, j < m → 1 ≤ Z j ∧ Z j ≤ 4096 := by
  intro j hj
  obtain ⟨h1, h2, h3⟩ := W.lies hj
  have := W.bd (i := m) (Nat.le_refl _) h1
  have := W.big j hj
  omega

end Go.Proofs.Ytabfbgkablbeeaa
