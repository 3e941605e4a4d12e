/- Slide: the small functions. -/
import Derived.Test.YtabfbgkablbeeaaG17
import Derived.StillTailTactics
import Derived.Deep.QuietTactic
import Derived.BigQuiet
import Derived.Handy
set_option linter.all false

namespace Go.Proofs.Ytabfbgkablbeeaa
open Go.RowKit

theorem right_any (s : Sp) (w : World) : Calls Try.prog 31 #[agg s] w fun e w' => e = .returned (.bool (rightB s)) ∧ Keeps w w' := by
  obtain ⟨f, t, en⟩ := s
  unfold agg
  by_cases h1 : 0 ≤ f
  · by_cases h2 : f ≤ t
    · by_cases h3 : t ≤ en
      · go_enter Try.func31, Try.ntmps31
        go_wp2_with fail
        go_ret
        exact ⟨by simp [rightB, h1, h2, h3], (Touch.refl _ w).alloc _⟩
      · have HB := Lib.hid (rightB_no ⟨f, t, en⟩ (by dsimp only; omega))
        go_enter Try.func31, Try.ntmps31
        go_wp2_with fail
        go_ret
        exact ⟨congrArg _ (congrArg Value.bool HB.out.symm), (Touch.refl _ w).alloc _⟩
    · have HB := Lib.hid (rightB_no ⟨f, t, en⟩ (by dsimp only; omega))
      go_enter Try.func31, Try.ntmps31
      go_wp2_with fail
      go_ret
      exact ⟨congrArg _ (congrArg Value.bool HB.out.symm), (Touch.refl _ w).alloc _⟩
  · have HB := Lib.hid (rightB_no ⟨f, t, en⟩ (by dsimp only; omega))
    go_enter Try.func31, Try.ntmps31
    go_wp2_with fail
    go_ret
    exact ⟨congrArg _ (congrArg Value.bool HB.out.symm), (Touch.refl _ w).alloc _⟩
theorem room_any (s : Sp) (w : World) (h : rightB s = true) : Calls Try.prog 50 #[agg s] w fun e w' => e = .returned (.int .i64 (s.e - s.t)) ∧ Keeps w w' := by
  obtain ⟨q1, q2, q3, q4⟩ := (rightB_iff s).1 h
  have HR := Lib.hid (fun w => right_any s w)
  obtain ⟨f, t, en⟩ := s
  unfold agg at *
  rw [h] at HR
  clear h
  dsimp only at *
  go_enter Try.func50, Try.ntmps50
  go_wp2_with fail
  have hB : Blk (w.alloc (.cells #[.int .i64 f, .int .i64 t, .int .i64 en] 36)) w.heap.size 36 3 (spF fun _ => ⟨f, t, en⟩) :=
    Blk.made w 3 _ _ _ rfl (fun j hj => by rcases (by omega : j = 0 ∨ j = 1 ∨ j = 2) with rfl | rfl | rfl <;> rfl)
  refine (HR.out _).mono ?_
  rintro e w1 ⟨rfl, k1⟩
  have hB1 := Blk.touch hB k1 (fun h => h)
  have c1 : w1.cell? ⟨w.heap.size, 1, none⟩ = some (.int .i64 t) := hB1.cell (j := 1) (by omega)
  have c2 : w1.cell? ⟨w.heap.size, 2, none⟩ = some (.int .i64 en) := hB1.cell (j := 2) (by omega)
  go_wp2_with fail
  go_ret
  exact ⟨by go_num, Keeps.trans ((Touch.refl _ w).alloc _) k1⟩
theorem empty_any (s : Sp) (w : World) (h : rightB s = true) : Calls Try.prog 27 #[agg s] w fun e w' => e = .returned (agg (emp s)) ∧ Keeps w w' := by
  have HR := Lib.hid (fun w => right_any s w)
  obtain ⟨f, t, en⟩ := s
  unfold emp
  unfold agg at *
  rw [h] at HR
  clear h
  dsimp only at *
  go_enter Try.func27, Try.ntmps27
  go_wp2_with fail
  have hB : Blk (w.alloc (.cells #[.int .i64 f, .int .i64 t, .int .i64 en] 36)) w.heap.size 36 3 (spF fun _ => ⟨f, t, en⟩) :=
    Blk.made w 3 _ _ _ rfl (fun j hj => by rcases (by omega : j = 0 ∨ j = 1 ∨ j = 2) with rfl | rfl | rfl <;> rfl)
  have hB' := hB.alloc (.cells #[.int .i64 0, .int .i64 0, .int .i64 0] 36)
  have hR : Blk ((w.alloc (.cells #[.int .i64 f, .int .i64 t, .int .i64 en] 36)).alloc (.cells #[.int .i64 0, .int .i64 0, .int .i64 0] 36)) (w.heap.size + 1) 36 3 (spF fun _ => ⟨0, 0, 0⟩) := by
    have := Blk.made (w.alloc (.cells #[.int .i64 f, .int .i64 t, .int .i64 en] 36)) 3 36 (spF fun _ => ⟨0, 0, 0⟩) #[.int .i64 0, .int .i64 0, .int .i64 0] rfl (fun j hj => by rcases (by omega : j = 0 ∨ j = 1 ∨ j = 2) with rfl | rfl | rfl <;> rfl)
    simpa using this
  have K1 := ((Touch.refl (fun _ => False) w).alloc (.cells #[.int .i64 f, .int .i64 t, .int .i64 en] 36)).alloc (.cells #[.int .i64 0, .int .i64 0, .int .i64 0] 36)
  refine (HR.out _).mono ?_
  rintro e w1 ⟨rfl, k1⟩
  have hB1 := Blk.touch hB' k1 (fun h => h)
  have hR1 := Blk.touch hR k1 (fun h => h)
  have K2 := Keeps.trans K1 k1
  have c0 : w1.cell? ⟨w.heap.size, 0, none⟩ = some (.int .i64 f) := hB1.cell (j := 0) (by omega)
  have c2 : w1.cell? ⟨w.heap.size, 2, none⟩ = some (.int .i64 en) := hB1.cell (j := 2) (by omega)
  have f0 := hR1.frozen 0
  have f1 := hR1.frozen 1
  have f2 := hR1.frozen 2
  have z0 : w1.cell? ⟨w.heap.size + 1, 0, none⟩ = some (.int .i64 0) := hR1.cell (j := 0) (by omega)
  have z1 : w1.cell? ⟨w.heap.size + 1, 1, none⟩ = some (.int .i64 0) := hR1.cell (j := 1) (by omega)
  have z2 : w1.cell? ⟨w.heap.size + 1, 2, none⟩ = some (.int .i64 0) := hR1.cell (j := 2) (by omega)
  go_wp2_with fail
  have hR2 := ((hR1.set 0 (.int .i64 f)).set 1 (.int .i64 f)).set 2 (.int .i64 en)
  have K3 := ((K2.setCell (p := ⟨w.heap.size + 1, 0, none⟩) (fun h => absurd h (by simp)) (.int .i64 f)).setCell (p := ⟨w.heap.size + 1, 1, none⟩) (fun h => absurd h (by simp)) (.int .i64 f)).setCell (p := ⟨w.heap.size + 1, 2, none⟩) (fun h => absurd h (by simp)) (.int .i64 en)
  generalize ((w1.setCell ⟨w.heap.size + 1, 0, none⟩ (.int .i64 f)).setCell ⟨w.heap.size + 1, 1, none⟩ (.int .i64 f)).setCell ⟨w.heap.size + 1, 2, none⟩ (.int .i64 en) = w2 at *
  have g0 : w2.cell? ⟨w.heap.size + 1, 0, none⟩ = some (.int .i64 f) := hR2.cell (j := 0) (by omega)
  have g1 : w2.cell? ⟨w.heap.size + 1, 1, none⟩ = some (.int .i64 f) := hR2.cell (j := 1) (by omega)
  have g2 : w2.cell? ⟨w.heap.size + 1, 2, none⟩ = some (.int .i64 en) := hR2.cell (j := 2) (by omega)
  refine bodyPost_ret (v := .agg #[.int .i64 f, .int .i64 f, .int .i64 en]) (by simp [results, Try.results27, go_sem, g0, g1, g2]) rfl ?_
  exact ⟨rfl, K3⟩

set_option maxRecDepth 100000 in
theorem take_any (s : Sp) (z : Int) (w : World) (h : rightB s = true) (hz : 1 ≤ z) : Calls Try.prog 59 #[agg s, .int .i64 z] w fun e w' =>
    e = .returned (.tuple (if s.e - s.t < z then #[.int .i64 0, agg ⟨0, 0, 0⟩, .int .i64 3] else #[.int .i64 s.t, agg { s with t := s.t + z }, .int .i64 0])) ∧ Keeps w w' := by
  obtain ⟨q1, q2, q3, q4⟩ := (rightB_iff s).1 h
  have HR := Lib.hid (fun w => right_any s w)
  have HM := Lib.hid (fun w => room_any s w h)
  obtain ⟨f, t, en⟩ := s
  unfold agg at *
  rw [h] at HR
  clear h
  dsimp only at *
  have hB : Blk (w.alloc (.cells #[.int .i64 f, .int .i64 t, .int .i64 en] 36)) w.heap.size 36 3 (spF fun _ => ⟨f, t, en⟩) :=
    Blk.made w 3 _ _ _ rfl (fun j hj => by rcases (by omega : j = 0 ∨ j = 1 ∨ j = 2) with rfl | rfl | rfl <;> rfl)
  have hB' := hB.alloc (.cells #[.int .i64 0, .int .i64 0, .int .i64 0] 36)
  have hR : Blk ((w.alloc (.cells #[.int .i64 f, .int .i64 t, .int .i64 en] 36)).alloc (.cells #[.int .i64 0, .int .i64 0, .int .i64 0] 36)) (w.heap.size + 1) 36 3 (spF fun _ => ⟨0, 0, 0⟩) := by
    have := Blk.made (w.alloc (.cells #[.int .i64 f, .int .i64 t, .int .i64 en] 36)) 3 36 (spF fun _ => ⟨0, 0, 0⟩) #[.int .i64 0, .int .i64 0, .int .i64 0] rfl (fun j hj => by rcases (by omega : j = 0 ∨ j = 1 ∨ j = 2) with rfl | rfl | rfl <;> rfl)
    simpa using this
  have K1 := ((Touch.refl (fun _ => False) w).alloc (.cells #[.int .i64 f, .int .i64 t, .int .i64 en] 36)).alloc (.cells #[.int .i64 0, .int .i64 0, .int .i64 0] 36)
  have x0 : ((w.alloc (.cells #[.int .i64 f, .int .i64 t, .int .i64 en] 36)).alloc (.cells #[.int .i64 0, .int .i64 0, .int .i64 0] 36)).cell? ⟨w.heap.size, 0, none⟩ = some (.int .i64 f) := hB'.cell (j := 0) (by omega)
  have x1 : ((w.alloc (.cells #[.int .i64 f, .int .i64 t, .int .i64 en] 36)).alloc (.cells #[.int .i64 0, .int .i64 0, .int .i64 0] 36)).cell? ⟨w.heap.size, 1, none⟩ = some (.int .i64 t) := hB'.cell (j := 1) (by omega)
  have x2 : ((w.alloc (.cells #[.int .i64 f, .int .i64 t, .int .i64 en] 36)).alloc (.cells #[.int .i64 0, .int .i64 0, .int .i64 0] 36)).cell? ⟨w.heap.size, 2, none⟩ = some (.int .i64 en) := hB'.cell (j := 2) (by omega)
  have hz1 : ¬ z < 1 := by omega
  go_enter Try.func59, Try.ntmps59
  go_wp2_with fail
  refine (HR.out _).mono ?_
  rintro e w1 ⟨rfl, k1⟩
  have hB1 := Blk.touch hB' k1 (fun h => h)
  have hR1 := Blk.touch hR k1 (fun h => h)
  have K2 := Keeps.trans K1 k1
  clear hB hB' hR K1 k1 x0 x1 x2
  have c0 : w1.cell? ⟨w.heap.size, 0, none⟩ = some (.int .i64 f) := hB1.cell (j := 0) (by omega)
  have c1 : w1.cell? ⟨w.heap.size, 1, none⟩ = some (.int .i64 t) := hB1.cell (j := 1) (by omega)
  have c2 : w1.cell? ⟨w.heap.size, 2, none⟩ = some (.int .i64 en) := hB1.cell (j := 2) (by omega)
  go_wp2_with fail
  refine (HM.out _).mono ?_
  rintro e w2 ⟨rfl, k2⟩
  have hB2 := Blk.touch hB1 k2 (fun h => h)
  have hR2 := Blk.touch hR1 k2 (fun h => h)
  have K3 := Keeps.trans K2 k2
  clear hB1 hR1 K2 k2 c0 c1 c2
  have c0 : w2.cell? ⟨w.heap.size, 0, none⟩ = some (.int .i64 f) := hB2.cell (j := 0) (by omega)
  have c1 : w2.cell? ⟨w.heap.size, 1, none⟩ = some (.int .i64 t) := hB2.cell (j := 1) (by omega)
  have c2 : w2.cell? ⟨w.heap.size, 2, none⟩ = some (.int .i64 en) := hB2.cell (j := 2) (by omega)
  have f0 := hR2.frozen 0
  have f1 := hR2.frozen 1
  have f2 := hR2.frozen 2
  have z0 : w2.cell? ⟨w.heap.size + 1, 0, none⟩ = some (.int .i64 0) := hR2.cell (j := 0) (by omega)
  have z1 : w2.cell? ⟨w.heap.size + 1, 1, none⟩ = some (.int .i64 0) := hR2.cell (j := 1) (by omega)
  have z2 : w2.cell? ⟨w.heap.size + 1, 2, none⟩ = some (.int .i64 0) := hR2.cell (j := 2) (by omega)
  by_cases hq : en - t < z
  · go_wp2_with fail
    have hR3 := ((hR2.set 0 (.int .i64 0)).set 1 (.int .i64 0)).set 2 (.int .i64 0)
    have K4 := ((K3.setCell (p := ⟨w.heap.size + 1, 0, none⟩) (fun h => absurd h (by simp)) (.int .i64 0)).setCell (p := ⟨w.heap.size + 1, 1, none⟩) (fun h => absurd h (by simp)) (.int .i64 0)).setCell (p := ⟨w.heap.size + 1, 2, none⟩) (fun h => absurd h (by simp)) (.int .i64 0)
    generalize ((w2.setCell ⟨w.heap.size + 1, 0, none⟩ (.int .i64 0)).setCell ⟨w.heap.size + 1, 1, none⟩ (.int .i64 0)).setCell ⟨w.heap.size + 1, 2, none⟩ (.int .i64 0) = w3 at *
    have g0 : w3.cell? ⟨w.heap.size + 1, 0, none⟩ = some (.int .i64 0) := hR3.cell (j := 0) (by omega)
    have g1 : w3.cell? ⟨w.heap.size + 1, 1, none⟩ = some (.int .i64 0) := hR3.cell (j := 1) (by omega)
    have g2 : w3.cell? ⟨w.heap.size + 1, 2, none⟩ = some (.int .i64 0) := hR3.cell (j := 2) (by omega)
    refine bodyPost_ret (v := .tuple #[.int .i64 0, .agg #[.int .i64 0, .int .i64 0, .int .i64 0], .int .i64 3]) (by simp [results, Try.results59, go_sem, g0, g1, g2]) rfl ?_
    exact ⟨rfl, K4⟩
  · go_wp2_with fail
    go_still_tail 12, (by kernel_rfl)
    change wpList _ _ _ _ _ w2.drew
    go_wp2_with fail
    have hR3 := (((hR2.set 0 (.int .i64 f)).set 1 (.int .i64 (t + z))).set 2 (.int .i64 en)).drew
    have K4 := (((K3.setCell (p := ⟨w.heap.size + 1, 0, none⟩) (fun h => absurd h (by simp)) (.int .i64 f)).setCell (p := ⟨w.heap.size + 1, 1, none⟩) (fun h => absurd h (by simp)) (.int .i64 (t + z))).setCell (p := ⟨w.heap.size + 1, 2, none⟩) (fun h => absurd h (by simp)) (.int .i64 en)).drew
    generalize (((w2.setCell ⟨w.heap.size + 1, 0, none⟩ (.int .i64 f)).setCell ⟨w.heap.size + 1, 1, none⟩ (.int .i64 (t + z))).setCell ⟨w.heap.size + 1, 2, none⟩ (.int .i64 en)).drew = w3 at *
    have g0 : w3.cell? ⟨w.heap.size + 1, 0, none⟩ = some (.int .i64 f) := hR3.cell (j := 0) (by omega)
    have g1 : w3.cell? ⟨w.heap.size + 1, 1, none⟩ = some (.int .i64 (t + z)) := hR3.cell (j := 1) (by omega)
    have g2 : w3.cell? ⟨w.heap.size + 1, 2, none⟩ = some (.int .i64 en) := hR3.cell (j := 2) (by omega)
    refine bodyPost_ret (v := .tuple #[.int .i64 t, .agg #[.int .i64 f, .int .i64 (t + z), .int .i64 en], .int .i64 0]) (by simp [results, Try.results59, go_sem, g0, g1, g2]) rfl ?_
    exact ⟨rfl, K4⟩

end Go.Proofs.Ytabfbgkablbeeaa
