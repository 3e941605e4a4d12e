/- Layer 15, plain: a young object that is moved. -/
import Derived.Test.YtabfbgkablbeeaaG15
import Derived.Test.YtabfbgkablbeeaaG02
set_option linter.all false

namespace Go.Proofs.Ytabfbgkablbeeaa
open Go.RowKit

/-- What stands at an address hangs on its words alone. -/
theorem atT_same {n m : Nat} {f g : Nat → Int} {C : Nat → Cl} {a : Int} (hC : ∀ j, j < m → (C j).ok) (h : (atT n f m C a).2 = 0)
    (hg : ∀ j : Nat, a ≤ j → (j : Int) < a + (atT n f m C a).1.words → g j = f j) : atT n g m C a = atT n f m C a := by
  obtain ⟨h1, h2, h3⟩ := at_cases h
  obtain ⟨t1, t2, t3, t4⟩ := thB_true.1 h1
  have e0 : (a.toNat : Int) = a := by omega
  have e1 : ((a + 1).toNat : Int) = a + 1 := by omega
  rcases h3 with ⟨c1, c2, c3⟩ | ⟨c1, c2, c3, c4, c5, c6⟩ | ⟨c1, c2, c3, c4, c5⟩
  · rw [c3] at hg ⊢
    have q0 : g a.toNat = f a.toNat := hg _ (by omega) (by dsimp only; omega)
    exact atT_one h1 (by rw [q0]; exact h2) (by rw [q0]) c1 c2
  · obtain ⟨u1, u2, u3, u4⟩ := thB_true.1 c5
    rw [c6] at hg ⊢
    have q0 : g a.toNat = f a.toNat := hg _ (by omega) (by dsimp only; omega)
    have q1 : g (a + 1).toNat = f (a + 1).toNat := hg _ (by omega) (by dsimp only; omega)
    exact atT_gap h1 (by rw [q0]; exact h2) (by rw [q0]) c1 c2 c3 q1 (by omega) c5
  · obtain ⟨b1, b2, b3, b4⟩ := sh_bd hC c3
    rw [c5] at hg ⊢
    have q0 : g a.toNat = f a.toNat := hg _ (by omega) (by dsimp only; omega)
    have q1 : g (a + 1).toNat = f (a + 1).toNat := hg _ (by omega) (by dsimp only; omega)
    exact atT_obj h1 (by rw [q0]; exact h2) (by rw [q0]) c1 c2 q1 c3 rfl rfl c4

/-- From a to z there are things, side by side; L are the objects among them. -/
inductive Tiles (T : Int → Th × Int) : Int → Int → List Int → Prop
  | nil (a : Int) : Tiles T a a []
  | cons {a z : Int} {L : List Int} : (T a).2 = 0 → 1 ≤ (T a).1.words → Tiles T (a + (T a).1.words) z L → Tiles T a z (if (T a).1.is then a :: L else L)
namespace Tiles
variable {T : Int → Th × Int} {a b z : Int} {L L' : List Int}
theorem le (h : Tiles T a z L) : a ≤ z := by
  induction h with
  | nil => exact Int.le_refl _
  | cons _ h2 _ ih => omega
theorem append (h : Tiles T a b L) (h' : Tiles T b z L') : Tiles T a z (L ++ L') := by
  induction h with
  | nil => exact h'
  | cons h1 h2 _ ih =>
    rename_i a b L h3
    have := Tiles.cons h1 h2 (ih h')
    cases hi : (T a).1.is with
    | true => simpa [hi] using this
    | false => simpa [hi] using this
theorem one (h1 : (T a).2 = 0) (h2 : 1 ≤ (T a).1.words) : Tiles T a (a + (T a).1.words) (if (T a).1.is then [a] else []) := .cons h1 h2 (.nil _)
theorem walk (h : Tiles T a z L) : WalkR T z a L 0 := by
  induction h with
  | nil => exact .done (Int.le_refl _)
  | cons h1 h2 h3 ih =>
    have hle := h3.le
    have := WalkR.step (by omega) h1 (by omega) ih
    rw [if_pos rfl] at this
    exact this
theorem far {p : Int} (h : Tiles T a p L) (h1 : (T p).2 = 0) (h2 : p < z) (h3 : z - p < (T p).1.words) : WalkR T z a [] 12 := by
  induction h with
  | nil => exact .far h2 h1 h3
  | cons k1 k2 k3 ih =>
    have hle := k3.le
    have := WalkR.step (by omega) k1 (by omega) (ih h1 h2 h3)
    rw [if_neg (by decide)] at this
    exact this
theorem congr {n m : Nat} {f g : Nat → Int} {C : Nat → Cl} (hC : ∀ j, j < m → (C j).ok) (h : Tiles (atT n f m C) a z L) (hg : ∀ j : Nat, a ≤ j → (j : Int) < z → g j = f j) : Tiles (atT n g m C) a z L := by
  induction h with
  | nil => exact .nil _
  | cons h1 h2 h3 ih =>
    rename_i a z L
    have hle := h3.le
    have e := atT_same hC h1 (g := g) (fun j j1 j2 => hg j j1 (by omega))
    have := Tiles.cons (T := atT n g m C) (a := a) (z := z) (L := L) (by rw [e]; exact h1) (by rw [e]; exact h2) (by rw [e]; exact ih (fun j j1 j2 => hg j (by omega) j2))
    rw [e] at this
    exact this
end Tiles

end Go.Proofs.Ytabfbgkablbeeaa

namespace Go.Proofs.Ytabfbgkablbeeaa
open Go.RowKit

/-- Words that are moved. -/
def moveF (g : Nat → Int) (dst src k : Int) : Nat → Int := fun j => if dst ≤ j ∧ (j : Int) < dst + k then g (src + (j - dst)).toNat else g j
theorem moveF_in {g : Nat → Int} {dst src k : Int} {j : Nat} (h : dst ≤ j ∧ (j : Int) < dst + k) : moveF g dst src k j = g (src + (j - dst)).toNat := if_pos h
theorem moveF_out {g : Nat → Int} {dst src k : Int} {j : Nat} (h : ¬ (dst ≤ j ∧ (j : Int) < dst + k)) : moveF g dst src k j = g j := if_neg h
/-- Things that are moved down: the i-th stands at s i, has Z i words, goes to P i; adj i turns its words where it stands. -/
structure Down (m : Nat) (s P Z : Nat → Int) (adj : Nat → (Nat → Int) → Nat → Int) : Prop where
  big : ∀ i, i < m → 1 ≤ Z i
  p0 : ∀ i, i < m → 0 ≤ P i
  le : ∀ i, i < m → P i ≤ s i
  snext : ∀ i, i + 1 < m → s i + Z i ≤ s (i + 1)
  pnext : ∀ i, i + 1 < m → P i + Z i ≤ P (i + 1)
  out : ∀ i, i < m → ∀ (g : Nat → Int) (j : Nat), ¬ (s i ≤ j ∧ (j : Int) < s i + Z i) → adj i g j = g j
  loc : ∀ i, i < m → ∀ (g g' : Nat → Int), (∀ j : Nat, s i ≤ j → (j : Int) < s i + Z i → g j = g' j) → ∀ j : Nat, s i ≤ j → (j : Int) < s i + Z i → adj i g j = adj i g' j
def downF (f : Nat → Int) (s P Z : Nat → Int) (adj : Nat → (Nat → Int) → Nat → Int) : Nat → Nat → Int
  | 0 => f
  | i + 1 => moveF (adj i (downF f s P Z adj i)) (P i) (s i) (Z i)
namespace Down
variable {m : Nat} {s P Z : Nat → Int} {adj : Nat → (Nat → Int) → Nat → Int} {f : Nat → Int}
/-- What stands from the next one on is as it was. -/
theorem src (h : Down m s P Z adj) : ∀ i, i < m → ∀ j : Nat, s i ≤ j → downF f s P Z adj i j = f j
  | 0, _, _, _ => rfl
  | i + 1, hi, j, hj => by
    have h1 := h.snext i hi
    have h2 := h.le i (by omega)
    have h3 := h.big i (by omega)
    show moveF (adj i (downF f s P Z adj i)) (P i) (s i) (Z i) j = f j
    rw [moveF_out (by omega), h.out i (by omega) _ _ (by omega)]
    exact h.src i (by omega) j (by omega)
theorem pmono (h : Down m s P Z adj) : ∀ d q, q + 1 + d < m → P q + Z q ≤ P (q + 1 + d)
  | 0, q, hq => h.pnext q hq
  | d + 1, q, hq => by
    have h1 := h.pmono d q (by omega)
    have h2 := h.pnext (q + 1 + d) (by omega)
    have h3 := h.big (q + 1 + d) (by omega)
    rw [show q + 1 + (d + 1) = q + 1 + d + 1 by omega]
    omega
theorem psep (h : Down m s P Z adj) {q i : Nat} (hq : q < i) (hi : i < m) : P q + Z q ≤ P i := by
  obtain ⟨d, rfl⟩ : ∃ d, i = q + 1 + d := ⟨i - (q + 1), by omega⟩
  exact h.pmono d q hi
/-- What was moved lies at its new place, adjusted. -/
theorem dst (h : Down m s P Z adj) : ∀ i, i ≤ m → ∀ q, q < i → ∀ t : Int, 0 ≤ t → t < Z q → downF f s P Z adj i (P q + t).toNat = adj q f (s q + t).toNat
  | 0, _, q, hq, _, _, _ => by omega
  | i + 1, hi, q, hq, t, t0, t1 => by
    show moveF (adj i (downF f s P Z adj i)) (P i) (s i) (Z i) (P q + t).toNat = _
    have hp := h.p0 q (by omega)
    have hle := h.le i (by omega)
    have hs0 := h.le q (by omega)
    rcases (by omega : q = i ∨ q < i) with rfl | hlt
    · rw [moveF_in (by omega), show (s q + (((P q + t).toNat : Nat) - P q) : Int).toNat = (s q + t).toNat by omega]
      exact h.loc q (by omega) _ _ (fun j j1 _ => h.src q (by omega) j j1) _ (by omega) (by omega)
    · have hsep := h.psep hlt (by omega)
      rw [moveF_out (by omega), h.out i (by omega) _ _ (by omega)]
      exact h.dst i (by omega) q hlt t t0 t1
/-- What lies apart from all of it is as it was. -/
theorem other (h : Down m s P Z adj) : ∀ i, i ≤ m → ∀ j : Nat, (∀ q, q < i → ¬ (P q ≤ j ∧ (j : Int) < s q + Z q)) → downF f s P Z adj i j = f j
  | 0, _, _, _ => rfl
  | i + 1, hi, j, hj => by
    have h1 := hj i (by omega)
    have h2 := h.le i (by omega)
    show moveF (adj i (downF f s P Z adj i)) (P i) (s i) (Z i) j = f j
    rw [moveF_out (by omega), h.out i (by omega) _ _ (by omega)]
    exact h.other i (by omega) j (fun q hq => hj q (by omega))
end Down

end Go.Proofs.Ytabfbgkablbeeaa

namespace Go.Proofs.Ytabfbgkablbeeaa
open Go.RowKit

theorem atT_two {n m : Nat} {f g : Nat → Int} {C : Nat → Cl} {a : Int} (h1 : g a.toNat = f a.toNat) (h2 : g (a + 1).toNat = f (a + 1).toNat) : atT n g m C a = atT n f m C a := by
  unfold atT; rw [h1, h2]
/-- An object's words at another place, with another head of its class. -/
theorem atM_to {n m : Nat} {f g : Nat → Int} {C : Nat → Cl} {a p : Int} {h h' : Hd} {r d k : Int} (hc : h.cls ≠ 0) (e : atT n f m C a = (⟨h, r, d, k⟩, 0)) (hk : h'.ok) (hcl : h'.cls = h.cls) (hp1 : 1 ≤ p) (hpk : p + k ≤ n) (hk2 : 2 ≤ k) (h1 : g p.toNat = hdW h') (h2 : g (p + 1).toNat = f (a + 1).toNat) : atT n g m C p = (⟨h', r, d, k⟩, 0) := by
  have h0 : (atT n f m C a).2 = 0 := by rw [e]
  obtain ⟨hT, _, hcs⟩ := at_cases h0
  rcases hcs with ⟨q1, _, q3⟩ | ⟨q1, _, _, _, _, q3⟩ | ⟨q1, q2, q3, q4, q5⟩
  · rw [e] at q3; injection q3 with q3; injection q3 with q3; rw [q3] at hc; exact absurd q1 hc
  · rw [e] at q3; injection q3 with q3; injection q3 with q3; rw [q3] at hc; exact absurd q1 hc
  · rw [e] at q5
    injection q5 with q5
    injection q5 with e1 e2 e3 e4
    have hraw : rawH (g p.toNat) = h' := by rw [h1]; exact raw_hdW hk
    rw [e4] at hpk hk2
    rw [e2, e3, e4]
    have e0 : h'.cls = (rawH (f a.toNat)).cls := by rw [hcl, e1]
    refine atT_obj (thB_true.2 ⟨hp1, by omega, by omega, by omega⟩) (by rw [hraw]; exact hk) hraw (by rw [hcl]; exact hc) (by omega) h2 (by rw [e0]; exact q3) (by rw [e0]) (by rw [e0]) (thB_true.2 ⟨hp1, by omega, by omega, by omega⟩)
/-- One older, but for the greatest age. -/
def olderH (h : Hd) : Hd := { h with age := if h.age + 1 ≤ 7 then h.age + 1 else 7 }
def unm (h : Hd) : Hd := { h with mark := false }
def fwdH (h : Hd) (b : Int) : Hd := { h with mark := false, fwd := b }
theorem olderH_ok {h : Hd} (k : h.ok) : (olderH h).ok := by
  refine ⟨k.1, ?_, k.2.2.1, k.2.2.2⟩
  have := k.2.1
  unfold olderH
  dsimp only
  split <;> omega
theorem unm_ok {h : Hd} (k : h.ok) : (unm h).ok := ⟨k.1, k.2.1, k.2.2.1, k.2.2.2⟩
theorem fwdH_ok {h : Hd} (k : h.ok) {b : Int} (h0 : 0 ≤ b) (h1 : b < 4096) : (fwdH h b).ok := ⟨k.1, k.2.1, ⟨h0, h1⟩, k.2.2.2⟩
/-- The memory behind a move of k words from a to b, with the two heads. -/
def mvF (f : Nat → Int) (a b k : Int) (h1 h2 : Hd) : Nat → Int := putF (putF (moveF f b a k) b.toNat (hdW h1)) a.toNat (hdW h2)
theorem move_one {n m : Nat} {f : Nat → Int} {C : Nat → Cl} {a b : Int} {h : Hd} {r d k : Int} (e : atT n f m C a = (⟨h, r, d, k⟩, 0)) (hc : h.cls ≠ 0) (hk2 : 2 ≤ k) (ha : 1 ≤ a) (hb1 : 1 ≤ b) (hbn : b + k ≤ n) (hsep : b + k ≤ a ∨ a + k ≤ b) {h1 h2 : Hd} (ok1 : h1.ok) (ok2 : h2.ok) (c1 : h1.cls = h.cls) (c2 : h2.cls = h.cls) :
    atT n (mvF f a b k h1 h2) m C b = (⟨h1, r, d, k⟩, 0) ∧ atT n (mvF f a b k h1 h2) m C a = (⟨h2, r, d, k⟩, 0) ∧ (∀ i : Int, 1 ≤ i → i < k → mvF f a b k h1 h2 (b + i).toNat = f (a + i).toNat) ∧ (∀ j : Nat, ¬ (b ≤ j ∧ (j : Int) < b + k) → j ≠ a.toNat → mvF f a b k h1 h2 j = f j) := by
  have hin : ∀ i : Int, 1 ≤ i → i < k → mvF f a b k h1 h2 (b + i).toNat = f (a + i).toNat := fun i i1 i2 => by
    unfold mvF
    rw [putF_ne (by omega), putF_ne (by omega), moveF_in (by omega)]
    congr 1
    omega
  have hout : ∀ j : Nat, ¬ (b ≤ j ∧ (j : Int) < b + k) → j ≠ a.toNat → mvF f a b k h1 h2 j = f j := fun j j1 j2 => by
    unfold mvF
    rw [putF_ne j2, putF_ne (by omega), moveF_out j1]
  refine ⟨atM_to hc e ok1 c1 hb1 hbn hk2 ?_ (hin 1 (by omega) (by omega)), ?_, hin, hout⟩
  · unfold mvF
    rw [putF_ne (by omega), putF_self]
  · have h0 : (atT n f m C a).2 = 0 := by rw [e]
    have hT := (at_cases h0).1
    have hb := thB_true.1 hT
    have e2 : (atT n f m C a).1.words = k := by rw [e]
    refine atM_to hc e ok2 c2 ha ?_ hk2 ?_ (hout _ (by omega) (by omega))
    · obtain ⟨_, _, hcs⟩ := at_cases h0
      rcases hcs with ⟨q1, _, q3⟩ | ⟨q1, _, _, _, _, q3⟩ | ⟨q1, q2, q3, q4, q5⟩
      · rw [q3] at e2; dsimp only at e2; omega
      · rw [q3] at e; injection e with e; injection e with e; rw [e] at q1; exact absurd q1 hc
      · rw [q5] at e2
        dsimp only at e2
        have := thB_true.1 q4
        omega
    · unfold mvF
      rw [putF_self]

end Go.Proofs.Ytabfbgkablbeeaa
