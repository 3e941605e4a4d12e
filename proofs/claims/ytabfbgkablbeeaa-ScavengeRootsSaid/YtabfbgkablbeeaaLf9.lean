/- A World among the arguments: how long its list of roots can be. -/
import Derived.Test.YtabfbgkablbeeaaG40
import Derived.SizedLaws
set_option linter.all false

namespace Go.Proofs.Ytabfbgkablbeeaa
open Go.ChangeShapes Go.WideShapes Go.ChangeAt Go.RowKit Go.Deep

theorem world_roots {H : Type} {enc : TypeId × Value → H} {w : World} {Ac Th Rf Ro : Option Addr} {m cc nt tc nr rc nz zc : Nat} {u0 u1 : Value} {d : DataW H} {p : List MemPlace}
    (h : DataW.Trod enc Try.prog w 0 (fun _ => true) true 27 (.agg #[.slice Ac m cc, .slice Th nt tc, .slice Rf nr rc, .slice Ro nz zc, u0, u1]) d p) {ts : List TypeId} {ds : List (DataW H)}
    (hw : (DataW.weightsEach Try.prog (27 :: ts) (d :: ds)).all (· ≤ reachBytes) = true) : nz ≤ 140737488351232 := by
  obtain ⟨fuel, hf⟩ := h
  obtain ⟨xs, n, _, hx, hl, hxl, hfd⟩ := DataW.trod_struct Try.underlying27 hf
  have hcs : (Value.agg #[.slice Ac m cc, .slice Th nt tc, .slice Rf nr rc, .slice Ro nz zc, u0, u1]).cells.toList = [.slice Ac m cc, .slice Th nt tc, .slice Rf nr rc, .slice Ro nz zc, u0, u1] := by simp [Value.cells]
  rw [hcs] at hfd
  have q3 : DataW.trod enc Try.prog w 0 (fun _ => true) true n 25 (([.slice Ac m cc, .slice Th nt tc, .slice Rf nr rc, .slice Ro nz zc, u0, u1].drop 3).take (Try.prog.cellsOf 25)) = xs[3]? := hfd 3 _ rfl
  have k3 : Try.prog.cellsOf 25 = 1 := by kernel_rfl
  have hxl : xs.length = 6 := hxl
  rw [k3, List.getElem?_eq_getElem (by omega)] at q3
  rcases open_slice Try.underlying25 q3 with ⟨e, _⟩ | ⟨a, l, c, mm, k, D, Pl, e, _, _, _, _, hx3, _⟩
  · simp only [List.drop_succ_cons, List.drop_zero, List.take_succ_cons, List.take_zero, List.cons.injEq, and_true, Value.slice.injEq] at e
    omega
  · simp only [List.drop_succ_cons, List.drop_zero, List.take_succ_cons, List.take_zero, List.cons.injEq, and_true, Value.slice.injEq] at e
    obtain ⟨_, rfl, _⟩ := e
    have hd : d = .agg (xs.map (·.1)) := (Prod.mk.inj hx).1
    have hb : Try.prog.bytesOf 5 = 1 := by kernel_rfl
    have hm : (nz + (mm - nz)) * Try.prog.bytesOf 5 ∈ d.weights Try.prog 27 := by
      rw [hd]
      simp only [DataW.weights, Try.underlying27]
      refine DataW.weights_mem_each (j := 3) (t := 25) (d := (xs[3]'(by omega)).1) rfl (by rw [List.getElem?_map, List.getElem?_eq_getElem (by omega)]; rfl) _ ?_
      rw [hx3]
      simp only [DataW.weights, Try.underlying25, List.length_map, List.length_range]
      exact List.mem_cons_self ..
    have h2 := of_decide_eq_true (List.all_eq_true.1 hw _ (DataW.weights_mem_each (ts := 27 :: ts) (ds := d :: ds) (j := 0) rfl rfl _ hm))
    rw [hb] at h2
    have h3 : reachBytes = 140737488351232 := rfl
    omega

end Go.Proofs.Ytabfbgkablbeeaa
