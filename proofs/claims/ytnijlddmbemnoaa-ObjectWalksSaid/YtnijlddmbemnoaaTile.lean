/- Things that lie side by side, as one walks through them. -/
import Derived.Test.YtnijlddmbemnoaaGaps
import Derived.Test.YtnijlddmbemnoaaRaw
namespace Go.Proofs.Ytnijlddmbemnoaa
open Go.RowKit

/-- What stands at an address hangs on its words alone. -/
theorem atT_same {n m : Nat} {f g : Nat → Int} {C : Nat → Cl} {a : Int} (hC : ∀ j, j < m → (C j).ok) (h : (atT n f m C a).2 = 0)
    (hg : ∀ j : Nat, a ≤ j → (j : Int) < a + (atT n f m C a).1.words → g j = f j) : atT n g m C a = atT n f m C a := by
  obtain ⟨h1, h2, h3⟩ := at_cases h
  obtain ⟨t1, t2, t3, t4⟩ := thB_true.1 h1
  have e0 : (a.toNat : Int) = a := by omega
  have e1 : ((a + 1).toNat : Int) = a + 1 := by omega
  rcases h3 with ⟨c1, c2, c3⟩ | ⟨c1, c2, c3, c4, c5, c6⟩ | ⟨c1, c2, c3, c4, c5⟩
  · rw [c3] at hg ⊢
    have q0 : g a.toNat = f a.toNat := hg _ (by omega) (by dsimp only; omega)
    exact atT_one h1 (by rw [q0]; exact h2) (by rw [q0]) c1 c2
  · obtain ⟨u1, u2, u3, u4⟩ := thB_true.1 c5
    rw [c6] at hg ⊢
    have q0 : g a.toNat = f a.toNat := hg _ (by omega) (by dsimp only; omega)
    have q1 : g (a + 1).toNat = f (a + 1).toNat := hg _ (by omega) (by dsimp only; omega)
    exact atT_gap h1 (by rw [q0]; exact h2) (by rw [q0]) c1 c2 c3 q1 (by omega) c5
  · obtain ⟨b1, b2, b3, b4⟩ := sh_bd hC c3
    rw [c5] at hg ⊢
    have q0 : g a.toNat = f a.toNat := hg _ (by omega) (by dsimp only; omega)
    have q1 : g (a + 1).toNat = f (a + 1).toNat := hg _ (by omega) (by dsimp only; omega)
    exact atT_obj h1 (by rw [q0]; exact h2) (by rw [q0]) c1 c2 q1 c3 rfl rfl c4

/-- From a to z there are things, side by side; L are the objects among them. -/
inductive Tiles (T : Int → Th × Int) : Int → Int → List Int → Prop
  | nil (a : Int) : Tiles T a a []
  | cons {a z : Int} {L : List Int} : (T a).2 = 0 → 1 ≤ (T a).1.words → Tiles T (a + (T a).1.words) z L → Tiles T a z (if (T a).1.is then a :: L else L)
namespace Tiles
variable {T : Int → Th × Int} {a b z : Int} {L L' : List Int}
theorem le (h : Tiles T a z L) : a ≤ z := by
  induction h with
  | nil => exact Int.le_refl _
  | cons _ h2 _ ih => omega
theorem append (h : Tiles T a b L) (h' : Tiles T b z L') : Tiles T a z (L ++ L') := by
  induction h with
  | nil => exact h'
  | cons h1 h2 _ ih =>
    rename_i a b L h3
    have := Tiles.cons h1 h2 (ih h')
    cases hi : (T a).1.is with
    | true => simpa [hi] using this
    | false => simpa [hi] using this
theorem one (h1 : (T a).2 = 0) (h2 : 1 ≤ (T a).1.words) : Tiles T a (a + (T a).1.words) (if (T a).1.is then [a] else []) := .cons h1 h2 (.nil _)
theorem walk (h : Tiles T a z L) : WalkR T z a L 0 := by
  induction h with
  | nil => exact .done (Int.le_refl _)
  | cons h1 h2 h3 ih =>
    have hle := h3.le
    have := WalkR.step (by omega) h1 (by omega) ih
    rw [if_pos rfl] at this
    exact this
theorem far {p : Int} (h : Tiles T a p L) (h1 : (T p).2 = 0) (h2 : p < z) (h3 : z - p < (T p).1.words) : WalkR T z a [] 12 := by
  induction h with
  | nil => exact .far h2 h1 h3
  | cons k1 k2 k3 ih =>
    have hle := k3.le
    have := WalkR.step (by omega) k1 (by omega) (ih h1 h2 h3)
    rw [if_neg (by decide)] at this
    exact this
theorem congr {n m : Nat} {f g : Nat → Int} {C : Nat → Cl} (hC : ∀ j, j < m → (C j).ok) (h : Tiles (atT n f m C) a z L) (hg : ∀ j : Nat, a ≤ j → (j : Int) < z → g j = f j) : Tiles (atT n g m C) a z L := by
  induction h with
  | nil => exact .nil _
  | cons h1 h2 h3 ih =>
    rename_i a z L
    have hle := h3.le
    have e := atT_same hC h1 (g := g) (fun j j1 j2 => hg j j1 (by omega))
    have := Tiles.cons (T := atT n g m C) (a := a) (z := z) (L := L) (by rw [e]; exact h1) (by rw [e]; exact h2) (by rw [e]; exact ih (fun j j1 j2 => hg j (by omega) j2))
    rw [e] at this
    exact this
end Tiles

end Go.Proofs.Ytnijlddmbemnoaa
