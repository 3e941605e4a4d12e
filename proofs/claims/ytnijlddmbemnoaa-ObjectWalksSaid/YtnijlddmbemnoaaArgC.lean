/- The classes among the arguments. -/
import Derived.Test.YtnijlddmbemnoaaOpen
import Derived.Test.YtnijlddmbemnoaaCls
namespace Go.Proofs.Ytnijlddmbemnoaa
open Go.ChangeShapes Go.WideShapes Go.ChangeAt Go.RowKit Go.Deep

theorem nil_fields {H : Type} {enc : TypeId × Value → H} {P : Program} {w : World} {t e : TypeId} {fs : Array Field} {len cap : Nat} {d : DataW H} {p : List MemPlace}
    (ht : P.underlying t = some (.slice e)) (he : P.underlying e = some (.struct fs)) (hone : oneCellFields P fs = true) (hC : P.cellsOf e = fs.size)
    (h : DataW.Trod enc P w 0 (fun _ => true) true t (.slice none len cap) d p) : len = 0 ∧ cap = 0 := by
  obtain ⟨fuel, hf⟩ := h
  rcases open_slice_fields ht he hone hC hf with ⟨hcs, _⟩ | ⟨a, l, c, m, D, Pl, hcs, _⟩
  · simp [Value.cells] at hcs
    exact hcs
  · simp [Value.cells] at hcs
theorem rd_cls {H : Type} {enc : TypeId × Value → H} {w : World} {A : Option Addr} {len cap : Nat} {d : DataW H} {p : List MemPlace}
    (h : DataW.Trod enc Try.prog w 0 (fun _ => true) true 38 (.slice A len cap) d p) :
    ∃ C, (A = none → len = 0 ∧ cap = 0) ∧ Rd w A (len * 4) (clF C) ∧ len ≤ maxLen := by
  have hn : A = none → len = 0 ∧ cap = 0 := fun e => by
    subst e
    exact nil_fields Try.underlying38 Try.underlying45 (by kernel_rfl) (by kernel_rfl) h
  obtain ⟨h1, h2, h3⟩ := rd_structs Try.underlying38 Try.underlying45 (by kernel_rfl) (by kernel_rfl) h
  have g0 : ∀ i, i < len → _ := fun i hi => (h3 i hi 0 _ rfl).elim fun n h => h.elim fun y h => int_of_trod Try.underlying3 h
  have g1 : ∀ i, i < len → _ := fun i hi => (h3 i hi 1 _ rfl).elim fun n h => h.elim fun y h => int_of_trod Try.underlying3 h
  have g2 : ∀ i, i < len → _ := fun i hi => (h3 i hi 2 _ rfl).elim fun n h => h.elim fun y h => int_of_trod Try.underlying3 h
  have g3 : ∀ i, i < len → _ := fun i hi => (h3 i hi 3 _ rfl).elim fun n h => h.elim fun y h => bool_of_trod Try.underlying4 h
  clear h3
  simp only [List.size_toArray, List.length_cons, List.length_nil, Nat.zero_add, Nat.reduceAdd, Nat.add_zero] at h1 g0 g1 g2 g3
  refine ⟨fun i => ⟨intOf (cellAt w A (i * 4)), intOf (cellAt w A (i * 4 + 1)), intOf (cellAt w A (i * 4 + 2)), boolOf (cellAt w A (i * 4 + 3))⟩, hn, h1.congr fun j hj => ?_, h2⟩
  have hq : j / 4 < len := by omega
  unfold clF
  rcases (by omega : j % 4 = 0 ∨ j % 4 = 1 ∨ j % 4 = 2 ∨ j % 4 = 3) with e | e | e | e
  · rw [if_pos e]; have := (g0 _ hq).1; dsimp only; rwa [show j / 4 * 4 = j from by omega] at this ⊢
  · rw [if_neg (by omega), if_pos e]; have := (g1 _ hq).1; dsimp only; rwa [show j / 4 * 4 + 1 = j from by omega] at this ⊢
  · rw [if_neg (by omega), if_neg (by omega), if_pos e]; have := (g2 _ hq).1; dsimp only; rwa [show j / 4 * 4 + 2 = j from by omega] at this ⊢
  · rw [if_neg (by omega), if_neg (by omega), if_neg (by omega)]; have := g3 _ hq; dsimp only; rwa [show j / 4 * 4 + 3 = j from by omega] at this ⊢

end Go.Proofs.Ytnijlddmbemnoaa
