/- Slide: back; rows that are written. -/
import Derived.Test.YtkjgfblkbjlohaaGreatG13
import Derived.StillTailTactics
import Derived.Deep.QuietTactic
import Derived.BigQuiet
import Derived.Handy
set_option linter.all false

namespace Go.Proofs.YtkjgfblkbjlohaaGreat
open Go.RowKit

theorem right_any (s : Sp) (w : World) : Calls Tryz.prog 48 #[agg s] w fun e w' => e = .returned (.bool (rightB s)) ∧ Keeps w w' := by
  obtain ⟨f, t, en⟩ := s
  unfold agg
  by_cases h1 : 0 ≤ f
  · by_cases h2 : f ≤ t
    · by_cases h3 : t ≤ en
      · go_enter Tryz.func48, Tryz.ntmps48
        go_wp2_with fail
        go_ret
        exact ⟨by simp [rightB, h1, h2, h3], (Touch.refl _ w).alloc _⟩
      · have HB := Lib.hid (rightB_no ⟨f, t, en⟩ (by dsimp only; omega))
        go_enter Tryz.func48, Tryz.ntmps48
        go_wp2_with fail
        go_ret
        exact ⟨congrArg _ (congrArg Value.bool HB.out.symm), (Touch.refl _ w).alloc _⟩
    · have HB := Lib.hid (rightB_no ⟨f, t, en⟩ (by dsimp only; omega))
      go_enter Tryz.func48, Tryz.ntmps48
      go_wp2_with fail
      go_ret
      exact ⟨congrArg _ (congrArg Value.bool HB.out.symm), (Touch.refl _ w).alloc _⟩
  · have HB := Lib.hid (rightB_no ⟨f, t, en⟩ (by dsimp only; omega))
    go_enter Tryz.func48, Tryz.ntmps48
    go_wp2_with fail
    go_ret
    exact ⟨congrArg _ (congrArg Value.bool HB.out.symm), (Touch.refl _ w).alloc _⟩
theorem rright_any (s : Sp) (w : World) : Calls Tryz.prog 76 #[agg s] w fun e w' => e = .returned (.bool (rightB s)) ∧ Keeps w w' := by
  obtain ⟨f, t, en⟩ := s
  unfold agg
  by_cases h1 : 0 ≤ f
  · by_cases h2 : f ≤ t
    · by_cases h3 : t ≤ en
      · go_enter Tryz.func76, Tryz.ntmps76
        go_wp2_with fail
        go_ret
        exact ⟨by simp [rightB, h1, h2, h3], (Touch.refl _ w).alloc _⟩
      · have HB := Lib.hid (rightB_no ⟨f, t, en⟩ (by dsimp only; omega))
        go_enter Tryz.func76, Tryz.ntmps76
        go_wp2_with fail
        go_ret
        exact ⟨congrArg _ (congrArg Value.bool HB.out.symm), (Touch.refl _ w).alloc _⟩
    · have HB := Lib.hid (rightB_no ⟨f, t, en⟩ (by dsimp only; omega))
      go_enter Tryz.func76, Tryz.ntmps76
      go_wp2_with fail
      go_ret
      exact ⟨congrArg _ (congrArg Value.bool HB.out.symm), (Touch.refl _ w).alloc _⟩
  · have HB := Lib.hid (rightB_no ⟨f, t, en⟩ (by dsimp only; omega))
    go_enter Tryz.func76, Tryz.ntmps76
    go_wp2_with fail
    go_ret
    exact ⟨congrArg _ (congrArg Value.bool HB.out.symm), (Touch.refl _ w).alloc _⟩

/-- The spaces among the arguments. -/
theorem rd_sps {H : Type} {enc : TypeId × Value → H} {w : World} {A : Option Addr} {len cap : Nat} {d : DataW H} {p : List MemPlace}
    (h : DataW.Trod enc Tryz.prog w 0 (fun _ => true) true 47 (.slice A len cap) d p) :
    ∃ L, Rd w A (len * 3) (spF L) ∧ InSp L len ∧ len ≤ maxLen := by
  obtain ⟨h1, h2, h3⟩ := rd_structs Tryz.underlying47 Tryz.underlying91 (by kernel_rfl) (by kernel_rfl) h
  have g0 : ∀ i, i < len → _ := fun i hi => (h3 i hi 0 _ rfl).elim fun n h => h.elim fun y h => int_of_trod Tryz.underlying3 h
  have g1 : ∀ i, i < len → _ := fun i hi => (h3 i hi 1 _ rfl).elim fun n h => h.elim fun y h => int_of_trod Tryz.underlying3 h
  have g2 : ∀ i, i < len → _ := fun i hi => (h3 i hi 2 _ rfl).elim fun n h => h.elim fun y h => int_of_trod Tryz.underlying3 h
  clear h3
  simp only [List.size_toArray, List.length_cons, List.length_nil, Nat.zero_add, Nat.reduceAdd, Nat.add_zero] at h1 g0 g1 g2
  refine ⟨fun i => ⟨intOf (cellAt w A (i * 3)), intOf (cellAt w A (i * 3 + 1)), intOf (cellAt w A (i * 3 + 2))⟩, h1.congr fun j hj => ?_, fun i hi => ⟨i64_bounds (g0 i hi).2, i64_bounds (g1 i hi).2, i64_bounds (g2 i hi).2⟩, h2⟩
  have hq : j / 3 < len := by omega
  unfold spF
  rcases (by omega : j % 3 = 0 ∨ j % 3 = 1 ∨ j % 3 = 2) with e | e | e
  · rw [if_pos e]; have := (g0 _ hq).1; dsimp only; rwa [show j / 3 * 3 = j from by omega] at this ⊢
  · rw [if_neg (by omega), if_pos e]; have := (g1 _ hq).1; dsimp only; rwa [show j / 3 * 3 + 1 = j from by omega] at this ⊢
  · rw [if_neg (by omega), if_neg (by omega)]; have := (g2 _ hq).1; dsimp only; rwa [show j / 3 * 3 + 2 = j from by omega] at this ⊢

theorem room_any (s : Sp) (w : World) (h : rightB s = true) : Calls Tryz.prog 90 #[agg s] w fun e w' => e = .returned (.int .i64 (s.e - s.t)) ∧ Keeps w w' := by
  obtain ⟨q1, q2, q3, q4⟩ := (rightB_iff s).1 h
  have HR := Lib.hid (fun w => right_any s w)
  obtain ⟨f, t, en⟩ := s
  unfold agg at *
  rw [h] at HR
  clear h
  dsimp only at *
  go_enter Tryz.func90, Tryz.ntmps90
  go_wp2_with fail
  have hB : Blk (w.alloc (.cells #[.int .i64 f, .int .i64 t, .int .i64 en] 56)) w.heap.size 56 3 (spF fun _ => ⟨f, t, en⟩) :=
    Blk.made w 3 _ _ _ rfl (fun j hj => by rcases (by omega : j = 0 ∨ j = 1 ∨ j = 2) with rfl | rfl | rfl <;> rfl)
  refine (HR.out _).mono ?_
  rintro e w1 ⟨rfl, k1⟩
  have hB1 := Blk.touch hB k1 (fun h => h)
  have c1 : w1.cell? ⟨w.heap.size, 1, none⟩ = some (.int .i64 t) := hB1.cell (j := 1) (by omega)
  have c2 : w1.cell? ⟨w.heap.size, 2, none⟩ = some (.int .i64 en) := hB1.cell (j := 2) (by omega)
  go_wp2_with fail
  go_ret
  exact ⟨by go_num, Keeps.trans ((Touch.refl _ w).alloc _) k1⟩
theorem empty_any (s : Sp) (w : World) (h : rightB s = true) : Calls Tryz.prog 67 #[agg s] w fun e w' => e = .returned (agg (emp s)) ∧ Keeps w w' := by
  have HR := Lib.hid (fun w => right_any s w)
  obtain ⟨f, t, en⟩ := s
  unfold emp
  unfold agg at *
  rw [h] at HR
  clear h
  dsimp only at *
  go_enter Tryz.func67, Tryz.ntmps67
  go_wp2_with fail
  have hB : Blk (w.alloc (.cells #[.int .i64 f, .int .i64 t, .int .i64 en] 56)) w.heap.size 56 3 (spF fun _ => ⟨f, t, en⟩) :=
    Blk.made w 3 _ _ _ rfl (fun j hj => by rcases (by omega : j = 0 ∨ j = 1 ∨ j = 2) with rfl | rfl | rfl <;> rfl)
  have hB' := hB.alloc (.cells #[.int .i64 0, .int .i64 0, .int .i64 0] 56)
  have hR : Blk ((w.alloc (.cells #[.int .i64 f, .int .i64 t, .int .i64 en] 56)).alloc (.cells #[.int .i64 0, .int .i64 0, .int .i64 0] 56)) (w.heap.size + 1) 56 3 (spF fun _ => ⟨0, 0, 0⟩) := by
    have := Blk.made (w.alloc (.cells #[.int .i64 f, .int .i64 t, .int .i64 en] 56)) 3 56 (spF fun _ => ⟨0, 0, 0⟩) #[.int .i64 0, .int .i64 0, .int .i64 0] rfl (fun j hj => by rcases (by omega : j = 0 ∨ j = 1 ∨ j = 2) with rfl | rfl | rfl <;> rfl)
    simpa using this
  have K1 := ((Touch.refl (fun _ => False) w).alloc (.cells #[.int .i64 f, .int .i64 t, .int .i64 en] 56)).alloc (.cells #[.int .i64 0, .int .i64 0, .int .i64 0] 56)
  refine (HR.out _).mono ?_
  rintro e w1 ⟨rfl, k1⟩
  have hB1 := Blk.touch hB' k1 (fun h => h)
  have hR1 := Blk.touch hR k1 (fun h => h)
  have K2 := Keeps.trans K1 k1
  have c0 : w1.cell? ⟨w.heap.size, 0, none⟩ = some (.int .i64 f) := hB1.cell (j := 0) (by omega)
  have c2 : w1.cell? ⟨w.heap.size, 2, none⟩ = some (.int .i64 en) := hB1.cell (j := 2) (by omega)
  have f0 := hR1.frozen 0
  have f1 := hR1.frozen 1
  have f2 := hR1.frozen 2
  have z0 : w1.cell? ⟨w.heap.size + 1, 0, none⟩ = some (.int .i64 0) := hR1.cell (j := 0) (by omega)
  have z1 : w1.cell? ⟨w.heap.size + 1, 1, none⟩ = some (.int .i64 0) := hR1.cell (j := 1) (by omega)
  have z2 : w1.cell? ⟨w.heap.size + 1, 2, none⟩ = some (.int .i64 0) := hR1.cell (j := 2) (by omega)
  go_wp2_with fail
  have hR2 := ((hR1.set 0 (.int .i64 f)).set 1 (.int .i64 f)).set 2 (.int .i64 en)
  have K3 := ((K2.setCell (p := ⟨w.heap.size + 1, 0, none⟩) (fun h => absurd h (by simp)) (.int .i64 f)).setCell (p := ⟨w.heap.size + 1, 1, none⟩) (fun h => absurd h (by simp)) (.int .i64 f)).setCell (p := ⟨w.heap.size + 1, 2, none⟩) (fun h => absurd h (by simp)) (.int .i64 en)
  generalize ((w1.setCell ⟨w.heap.size + 1, 0, none⟩ (.int .i64 f)).setCell ⟨w.heap.size + 1, 1, none⟩ (.int .i64 f)).setCell ⟨w.heap.size + 1, 2, none⟩ (.int .i64 en) = w2 at *
  have g0 : w2.cell? ⟨w.heap.size + 1, 0, none⟩ = some (.int .i64 f) := hR2.cell (j := 0) (by omega)
  have g1 : w2.cell? ⟨w.heap.size + 1, 1, none⟩ = some (.int .i64 f) := hR2.cell (j := 1) (by omega)
  have g2 : w2.cell? ⟨w.heap.size + 1, 2, none⟩ = some (.int .i64 en) := hR2.cell (j := 2) (by omega)
  refine bodyPost_ret (v := .agg #[.int .i64 f, .int .i64 f, .int .i64 en]) (by simp [results, Tryz.results67, go_sem, g0, g1, g2]) rfl ?_
  exact ⟨rfl, K3⟩

set_option maxRecDepth 100000 in
theorem take_any (s : Sp) (z : Int) (w : World) (h : rightB s = true) (hz : 1 ≤ z) : Calls Tryz.prog 68 #[agg s, .int .i64 z] w fun e w' =>
    e = .returned (.tuple (if s.e - s.t < z then #[.int .i64 0, agg ⟨0, 0, 0⟩, .int .i64 3] else #[.int .i64 s.t, agg { s with t := s.t + z }, .int .i64 0])) ∧ Keeps w w' := by
  obtain ⟨q1, q2, q3, q4⟩ := (rightB_iff s).1 h
  have HR := Lib.hid (fun w => right_any s w)
  have HM := Lib.hid (fun w => room_any s w h)
  obtain ⟨f, t, en⟩ := s
  unfold agg at *
  rw [h] at HR
  clear h
  dsimp only at *
  have hB : Blk (w.alloc (.cells #[.int .i64 f, .int .i64 t, .int .i64 en] 56)) w.heap.size 56 3 (spF fun _ => ⟨f, t, en⟩) :=
    Blk.made w 3 _ _ _ rfl (fun j hj => by rcases (by omega : j = 0 ∨ j = 1 ∨ j = 2) with rfl | rfl | rfl <;> rfl)
  have hB' := hB.alloc (.cells #[.int .i64 0, .int .i64 0, .int .i64 0] 56)
  have hR : Blk ((w.alloc (.cells #[.int .i64 f, .int .i64 t, .int .i64 en] 56)).alloc (.cells #[.int .i64 0, .int .i64 0, .int .i64 0] 56)) (w.heap.size + 1) 56 3 (spF fun _ => ⟨0, 0, 0⟩) := by
    have := Blk.made (w.alloc (.cells #[.int .i64 f, .int .i64 t, .int .i64 en] 56)) 3 56 (spF fun _ => ⟨0, 0, 0⟩) #[.int .i64 0, .int .i64 0, .int .i64 0] rfl (fun j hj => by rcases (by omega : j = 0 ∨ j = 1 ∨ j = 2) with rfl | rfl | rfl <;> rfl)
    simpa using this
  have K1 := ((Touch.refl (fun _ => False) w).alloc (.cells #[.int .i64 f, .int .i64 t, .int .i64 en] 56)).alloc (.cells #[.int .i64 0, .int .i64 0, .int .i64 0] 56)
  have x0 : ((w.alloc (.cells #[.int .i64 f, .int .i64 t, .int .i64 en] 56)).alloc (.cells #[.int .i64 0, .int .i64 0, .int .i64 0] 56)).cell? ⟨w.heap.size, 0, none⟩ = some (.int .i64 f) := hB'.cell (j := 0) (by omega)
  have x1 : ((w.alloc (.cells #[.int .i64 f, .int .i64 t, .int .i64 en] 56)).alloc (.cells #[.int .i64 0, .int .i64 0, .int .i64 0] 56)).cell? ⟨w.heap.size, 1, none⟩ = some (.int .i64 t) := hB'.cell (j := 1) (by omega)
  have x2 : ((w.alloc (.cells #[.int .i64 f, .int .i64 t, .int .i64 en] 56)).alloc (.cells #[.int .i64 0, .int .i64 0, .int .i64 0] 56)).cell? ⟨w.heap.size, 2, none⟩ = some (.int .i64 en) := hB'.cell (j := 2) (by omega)
  have hz1 : ¬ z < 1 := by omega
  go_enter Tryz.func68, Tryz.ntmps68
  go_wp2_with fail
  refine (HR.out _).mono ?_
  rintro e w1 ⟨rfl, k1⟩
  have hB1 := Blk.touch hB' k1 (fun h => h)
  have hR1 := Blk.touch hR k1 (fun h => h)
  have K2 := Keeps.trans K1 k1
  clear hB hB' hR K1 k1 x0 x1 x2
  have c0 : w1.cell? ⟨w.heap.size, 0, none⟩ = some (.int .i64 f) := hB1.cell (j := 0) (by omega)
  have c1 : w1.cell? ⟨w.heap.size, 1, none⟩ = some (.int .i64 t) := hB1.cell (j := 1) (by omega)
  have c2 : w1.cell? ⟨w.heap.size, 2, none⟩ = some (.int .i64 en) := hB1.cell (j := 2) (by omega)
  go_wp2_with fail
  refine (HM.out _).mono ?_
  rintro e w2 ⟨rfl, k2⟩
  have hB2 := Blk.touch hB1 k2 (fun h => h)
  have hR2 := Blk.touch hR1 k2 (fun h => h)
  have K3 := Keeps.trans K2 k2
  clear hB1 hR1 K2 k2 c0 c1 c2
  have c0 : w2.cell? ⟨w.heap.size, 0, none⟩ = some (.int .i64 f) := hB2.cell (j := 0) (by omega)
  have c1 : w2.cell? ⟨w.heap.size, 1, none⟩ = some (.int .i64 t) := hB2.cell (j := 1) (by omega)
  have c2 : w2.cell? ⟨w.heap.size, 2, none⟩ = some (.int .i64 en) := hB2.cell (j := 2) (by omega)
  have f0 := hR2.frozen 0
  have f1 := hR2.frozen 1
  have f2 := hR2.frozen 2
  have z0 : w2.cell? ⟨w.heap.size + 1, 0, none⟩ = some (.int .i64 0) := hR2.cell (j := 0) (by omega)
  have z1 : w2.cell? ⟨w.heap.size + 1, 1, none⟩ = some (.int .i64 0) := hR2.cell (j := 1) (by omega)
  have z2 : w2.cell? ⟨w.heap.size + 1, 2, none⟩ = some (.int .i64 0) := hR2.cell (j := 2) (by omega)
  by_cases hq : en - t < z
  · go_wp2_with fail
    have hR3 := ((hR2.set 0 (.int .i64 0)).set 1 (.int .i64 0)).set 2 (.int .i64 0)
    have K4 := ((K3.setCell (p := ⟨w.heap.size + 1, 0, none⟩) (fun h => absurd h (by simp)) (.int .i64 0)).setCell (p := ⟨w.heap.size + 1, 1, none⟩) (fun h => absurd h (by simp)) (.int .i64 0)).setCell (p := ⟨w.heap.size + 1, 2, none⟩) (fun h => absurd h (by simp)) (.int .i64 0)
    generalize ((w2.setCell ⟨w.heap.size + 1, 0, none⟩ (.int .i64 0)).setCell ⟨w.heap.size + 1, 1, none⟩ (.int .i64 0)).setCell ⟨w.heap.size + 1, 2, none⟩ (.int .i64 0) = w3 at *
    have g0 : w3.cell? ⟨w.heap.size + 1, 0, none⟩ = some (.int .i64 0) := hR3.cell (j := 0) (by omega)
    have g1 : w3.cell? ⟨w.heap.size + 1, 1, none⟩ = some (.int .i64 0) := hR3.cell (j := 1) (by omega)
    have g2 : w3.cell? ⟨w.heap.size + 1, 2, none⟩ = some (.int .i64 0) := hR3.cell (j := 2) (by omega)
    refine bodyPost_ret (v := .tuple #[.int .i64 0, .agg #[.int .i64 0, .int .i64 0, .int .i64 0], .int .i64 3]) (by simp [results, Tryz.results68, go_sem, g0, g1, g2]) rfl ?_
    exact ⟨rfl, K4⟩
  · go_wp2_with fail
    go_still_tail 12, (by kernel_rfl)
    change wpList _ _ _ _ _ w2.drew
    go_wp2_with fail
    have hR3 := (((hR2.set 0 (.int .i64 f)).set 1 (.int .i64 (t + z))).set 2 (.int .i64 en)).drew
    have K4 := (((K3.setCell (p := ⟨w.heap.size + 1, 0, none⟩) (fun h => absurd h (by simp)) (.int .i64 f)).setCell (p := ⟨w.heap.size + 1, 1, none⟩) (fun h => absurd h (by simp)) (.int .i64 (t + z))).setCell (p := ⟨w.heap.size + 1, 2, none⟩) (fun h => absurd h (by simp)) (.int .i64 en)).drew
    generalize (((w2.setCell ⟨w.heap.size + 1, 0, none⟩ (.int .i64 f)).setCell ⟨w.heap.size + 1, 1, none⟩ (.int .i64 (t + z))).setCell ⟨w.heap.size + 1, 2, none⟩ (.int .i64 en)).drew = w3 at *
    have g0 : w3.cell? ⟨w.heap.size + 1, 0, none⟩ = some (.int .i64 f) := hR3.cell (j := 0) (by omega)
    have g1 : w3.cell? ⟨w.heap.size + 1, 1, none⟩ = some (.int .i64 (t + z)) := hR3.cell (j := 1) (by omega)
    have g2 : w3.cell? ⟨w.heap.size + 1, 2, none⟩ = some (.int .i64 en) := hR3.cell (j := 2) (by omega)
    refine bodyPost_ret (v := .tuple #[.int .i64 t, .agg #[.int .i64 f, .int .i64 (t + z), .int .i64 en], .int .i64 0]) (by simp [results, Tryz.results68, go_sem, g0, g1, g2]) rfl ?_
    exact ⟨rfl, K4⟩

end Go.Proofs.YtkjgfblkbjlohaaGreat

namespace Go.Proofs.YtkjgfblkbjlohaaGreat
open Go.RowKit

/-- What is known of the first i spaces. -/
def RiseU (L : Nat → Sp) (i : Nat) : Prop := ∀ j, j < i → rightB (L j) = true ∧ endAt L j ≤ (L j).f
theorem not_rise {L : Nat → Sp} {n k : Nat} (hk : k < n) (h : ¬ (rightB (L k) = true ∧ endAt L k ≤ (L k).f)) : ¬ Rise L n := fun r => h (r k hk)
theorem rise_next {L : Nat → Sp} {k : Nat} (h : RiseU L k) (h1 : rightB (L k) = true) (h2 : endAt L k ≤ (L k).f) : RiseU L (k + 1) := by
  intro j hj
  rcases (by omega : j < k ∨ j = k) with h' | rfl
  · exact h j h'
  · exact ⟨h1, h2⟩

set_option maxHeartbeats 1000000 in
theorem rise_any (A : Option Addr) (n cap : Nat) (L : Nat → Sp) (w : World) (hr : Rd w A (n * 3) (spF L)) (hn : n ≤ 9223372036854775807) :
    Calls Tryz.prog 28 #[.slice A n cap] w fun e w' => ∃ b : Bool, e = .returned (.bool b) ∧ (b = true ↔ Rise L n) ∧ Keeps w w' := by
  go_enter Tryz.func28, Tryz.ntmps28
  go_wp2_with fail
  go_loopw [3, 8] (fun en i wr => ∃ k : Nat, k ≤ n ∧ en = .int .i64 (endAt L k) ∧ i = .int .i64 k ∧ RiseU L k ∧ Keeps w wr) (fun _ i _ => n - (intOf i).toNat)
  case atStart => exact ⟨0, Nat.zero_le _, rfl, rfl, fun j h => by omega, Touch.refl _ _⟩
  case round =>
    obtain ⟨k, hk, rfl, rfl, hall, K⟩ := hrel
    have HA := Lib.hid hall
    clear hall
    by_cases hlt : k < n
    · obtain ⟨b, off, rfl, c0, c1, c2⟩ := (hr.keep K).sp hlt
      have HN := Lib.hid (fun h => not_rise (L := L) hlt h)
      have HX := Lib.hid (fun h1 h2 => rise_next (L := L) (k := k) HA.out h1 h2)
      have hra := fun w => right_any (L k) w
      have HR := Lib.hid hra
      have hB : Blk (wr.alloc (.cells #[.int .i64 (L k).f, .int .i64 (L k).t, .int .i64 (L k).e] 56)) wr.heap.size 56 3 (spF fun _ => L k) :=
        Blk.made wr 3 _ _ _ rfl (fun j hj => by rcases (by omega : j = 0 ∨ j = 1 ∨ j = 2) with rfl | rfl | rfl <;> rfl)
      have K2 := K.alloc (.cells #[.int .i64 (L k).f, .int .i64 (L k).t, .int .i64 (L k).e] 56)
      clear hra
      generalize endAt L k = ek at *
      cases hq : rightB (L k) with
      | false =>
        rw [hq] at HR HN
        go_wp2_with fail
        refine (HR.out _).mono ?_
        rintro e w1 ⟨rfl, k1⟩
        go_wp2_with fail
        go_ret
        exact ⟨false, rfl, ⟨fun h => absurd h (by decide), fun h => absurd h (HN.out (fun h => absurd h.1 (by decide)))⟩, Keeps.trans K2 k1⟩
      | true =>
        rw [hq] at HR HN HX
        go_wp2_with fail
        refine (HR.out _).mono ?_
        rintro e w1 ⟨rfl, k1⟩
        have hB1 := Blk.touch hB k1 (fun h => h)
        have d0 : w1.cell? ⟨wr.heap.size, 0, none⟩ = some (.int .i64 (L k).f) := hB1.cell (j := 0) (by omega)
        have d2 : w1.cell? ⟨wr.heap.size, 2, none⟩ = some (.int .i64 (L k).e) := hB1.cell (j := 2) (by omega)
        by_cases hf : (L k).f < ek
        · go_wp2_with fail
          go_ret
          exact ⟨false, rfl, ⟨fun h => absurd h (by decide), fun h => absurd h (HN.out (fun h => (by have := h.2; omega)))⟩, Keeps.trans K2 k1⟩
        · go_wp2_with fail
          go_roundw
          case rel => exact ⟨k + 1, by omega, rfl, by go_num, HX.out trivial (by omega), Keeps.trans K2 k1⟩
          case measure => simp [intOf]; omega
    · have HE : k = n := by omega
      go_wp2_with fail
      go_ret
      exact ⟨true, rfl, ⟨fun _ => by rw [← HE]; exact HA.out, fun _ => rfl⟩, K⟩

set_option maxHeartbeats 1000000 in
theorem rrise_any (A : Option Addr) (n cap : Nat) (L : Nat → Sp) (w : World) (hr : Rd w A (n * 3) (spF L)) (hn : n ≤ 9223372036854775807) :
    Calls Tryz.prog 38 #[.slice A n cap] w fun e w' => ∃ b : Bool, e = .returned (.bool b) ∧ (b = true ↔ Rise L n) ∧ Keeps w w' := by
  go_enter Tryz.func38, Tryz.ntmps38
  go_wp2_with fail
  go_loopw [3, 7] (fun en i wr => ∃ k : Nat, k ≤ n ∧ en = .int .i64 (endAt L k) ∧ i = .int .i64 k ∧ RiseU L k ∧ Keeps w wr) (fun _ i _ => n - (intOf i).toNat)
  case atStart => exact ⟨0, Nat.zero_le _, rfl, rfl, fun j h => by omega, Touch.refl _ _⟩
  case round =>
    obtain ⟨k, hk, rfl, rfl, hall, K⟩ := hrel
    have HA := Lib.hid hall
    clear hall
    by_cases hlt : k < n
    · obtain ⟨b, off, rfl, c0, c1, c2⟩ := (hr.keep K).sp hlt
      have HN := Lib.hid (fun h => not_rise (L := L) hlt h)
      have HX := Lib.hid (fun h1 h2 => rise_next (L := L) (k := k) HA.out h1 h2)
      have HR := Lib.hid (fun w => rright_any (L k) w)
      generalize endAt L k = ek at *
      cases hq : rightB (L k) with
      | false =>
        rw [hq] at HR HN
        go_wp2_with fail
        refine (HR.out _).mono ?_
        rintro e w1 ⟨rfl, k1⟩
        go_wp2_with fail
        go_ret
        exact ⟨false, rfl, ⟨fun h => absurd h (by decide), fun h => absurd h (HN.out (fun h => absurd h.1 (by decide)))⟩, Keeps.trans K k1⟩
      | true =>
        rw [hq] at HR HN HX
        go_wp2_with fail
        refine (HR.out _).mono ?_
        rintro e w1 ⟨rfl, k1⟩
        have hbl := World.block_lt_of_cell? _ _ c0
        have d0 : w1.cell? ⟨b, off + k * 3, none⟩ = some (.int .i64 (L k).f) := by rw [← c0]; exact World.cell?_of_block (k1.block b hbl (fun h => h))
        have d2 : w1.cell? ⟨b, off + k * 3 + 2, none⟩ = some (.int .i64 (L k).e) := by rw [← c2]; exact World.cell?_of_block (k1.block b hbl (fun h => h))
        clear c0 c1 c2
        by_cases hf : (L k).f < ek
        · go_wp2_with fail
          go_ret
          exact ⟨false, rfl, ⟨fun h => absurd h (by decide), fun h => absurd h (HN.out (fun h => (by have := h.2; omega)))⟩, Keeps.trans K k1⟩
        · go_wp2_with fail
          go_roundw
          case rel => exact ⟨k + 1, by omega, rfl, by go_num, HX.out trivial (by omega), Keeps.trans K k1⟩
          case measure => simp [intOf]; omega
    · have HE : k = n := by omega
      go_wp2_with fail
      go_ret
      exact ⟨true, rfl, ⟨fun _ => by rw [← HE]; exact HA.out, fun _ => rfl⟩, K⟩

theorem run_clos (ar : Array Value) (w : World) : (callFunc 66 ar).run Tryz.prog w = .ok (.enter 66 ar) w := by kernel_rfl
theorem clos_any (z : Int) (w : World) : Calls Tryz.prog 66 #[.int .i64 z] w fun e w' => e = .returned (.bool (decide (z < 1))) ∧ w = w' := by
  go_enter Tryz.func66, Tryz.ntmps66
  go_wp2_with fail
  go_ret
  exact ⟨rfl, rfl⟩
set_option maxHeartbeats 1000000 in
theorem index_any (A : Option Addr) (n cap : Nat) (Z : Nat → Int) (w : World) (hr : Rd w A n (intF .i64 Z)) (hn : n ≤ 9223372036854775807) :
    Calls Tryz.prog 73 #[.slice A n cap, .func (.func 66) #[] #[]] w fun e w' => ∃ i : Int, e = .returned (.int .i64 i) ∧ (0 ≤ i ↔ ¬ ∀ j, j < n → 1 ≤ Z j) ∧ Keeps w w' := by
  have hcall := run_clos
  go_enter Tryz.func73, Tryz.ntmps73
  go_wp2_with fail
  go_loopw [8] (fun i wr => ∃ k : Nat, k ≤ n ∧ i = .int .i64 k ∧ (∀ j, j < k → 1 ≤ Z j) ∧ Keeps w wr) (fun i _ => n - (intOf i).toNat)
  case atStart => exact ⟨0, Nat.zero_le _, rfl, fun j h => by omega, Touch.refl _ _⟩
  case round =>
    obtain ⟨k, hk, rfl, hall, K⟩ := hrel
    have HA := Lib.hid hall
    clear hall
    by_cases hlt : k < n
    · obtain ⟨b, off, rfl, c1⟩ := (hr.keep K).one hlt
      have c2 : wr.cell? ⟨b, off + k, none⟩ = some (.int .i64 (Z k)) := c1
      clear c1
      go_wp2_with fail
      refine (clos_any (Z k) _).mono ?_
      rintro e w1 ⟨rfl, rfl⟩
      by_cases hz : Z k < 1
      · have HZ := Lib.hid hz
        go_wp2_with fail
        go_ret
        exact ⟨k, rfl, ⟨fun _ h => by have := h k hlt; have := HZ.out; omega, fun _ => by omega⟩, K⟩
      · have HZ := Lib.hid hz
        go_wp2_with fail
        go_roundw
        case rel => exact ⟨k + 1, by omega, by go_num, fun j h => by
          rcases (by omega : j < k ∨ j = k) with h' | rfl
          · exact HA.out j h'
          · have := HZ.out; omega, K⟩
        case measure => simp [intOf]; omega
    · have HE : k = n := by omega
      go_wp2_with fail
      go_ret
      exact ⟨-1, rfl, ⟨fun h => by omega, fun h => absurd (by rw [← HE]; exact HA.out) h⟩, K⟩
theorem contains_any (A : Option Addr) (n cap : Nat) (Z : Nat → Int) (w : World) (hr : Rd w A n (intF .i64 Z)) (hn : n ≤ 9223372036854775807) :
    Calls Tryz.prog 33 #[.slice A n cap, .func (.func 66) #[] #[]] w fun e w' => ∃ b : Bool, e = .returned (.bool b) ∧ (b = true ↔ ¬ ∀ j, j < n → 1 ≤ Z j) ∧ Keeps w w' := by
  have HI := Lib.hid (index_any A n cap Z w hr hn)
  go_enter Tryz.func33, Tryz.ntmps33
  go_wp2_with fail
  refine Calls.mono HI.out ?_
  rintro e w1 ⟨i, rfl, hi, k1⟩
  have HII := Lib.hid hi
  clear hi
  go_wp2_with fail
  go_ret
  exact ⟨decide (0 ≤ i), rfl, by rw [decide_eq_true_iff]; exact HII.out, k1⟩

end Go.Proofs.YtkjgfblkbjlohaaGreat

namespace Go.Proofs.YtkjgfblkbjlohaaGreat
open Go.RowKit

theorem info_sp : (Tryz.prog.info? 56).map (fun i => (i.zero, i.size, i.bytes)) = some (some (.agg #[.int .i64 0, .int .i64 0, .int .i64 0]), 3, 24) := by kernel_rfl
theorem info_rsp : (Tryz.prog.info? 91).map (fun i => (i.zero, i.size, i.bytes)) = some (some (.agg #[.int .i64 0, .int .i64 0, .int .i64 0]), 3, 24) := by kernel_rfl
theorem made_sp (T : TypeId) (w : World) (s : Sp) : Blk (w.alloc (.cells #[.int .i64 s.f, .int .i64 s.t, .int .i64 s.e] T)) w.heap.size T 3 (spF fun _ => s) :=
  Blk.made w 3 _ _ _ rfl (fun j hj => by rcases (by omega : j = 0 ∨ j = 1 ∨ j = 2) with rfl | rfl | rfl <;> rfl)
theorem made0 (T : TypeId) (w : World) (s : Sp) : (w.alloc (.cells #[.int .i64 s.f, .int .i64 s.t, .int .i64 s.e] T)).cell? ⟨w.heap.size, 0, none⟩ = some (.int .i64 s.f) := (made_sp T w s).cell (j := 0) (by omega)
theorem made1 (T : TypeId) (w : World) (s : Sp) : (w.alloc (.cells #[.int .i64 s.f, .int .i64 s.t, .int .i64 s.e] T)).cell? ⟨w.heap.size, 1, none⟩ = some (.int .i64 s.t) := (made_sp T w s).cell (j := 1) (by omega)
theorem made2 (T : TypeId) (w : World) (s : Sp) : (w.alloc (.cells #[.int .i64 s.f, .int .i64 s.t, .int .i64 s.e] T)).cell? ⟨w.heap.size, 2, none⟩ = some (.int .i64 s.e) := (made_sp T w s).cell (j := 2) (by omega)

/-- A row of spaces that may be written, in a block between two marks. -/
def NowR (T : TypeId) (w : World) (ad : Option Addr) (n base top : Nat) (now : Nat → Sp) : Prop :=
  0 < n → ∃ g cap f, ad = some ⟨g, 0, none⟩ ∧ base ≤ g ∧ g < top ∧ n ≤ cap ∧ Blk w g T (cap * 3) f ∧ ∀ j, j < n * 3 → f j = spF now j
theorem OwnSp.now {T : TypeId} {w : World} {base : Nat} {ad : Option Addr} {cp : Nat} {F : Nat → Sp} {n : Nat} (h : OwnSp T w base (.slice ad n cp) F n) : NowR T w ad n base w.heap.size F := by
  intro hn
  obtain ⟨g, cap, f, hv, h1, h2, h3, h4⟩ := h.blk hn
  simp only [Value.slice.injEq] at hv
  exact ⟨g, cap, f, hv.1, h1, h3.lt, h2, h3, h4⟩
theorem NowR.touch {T : TypeId} {w w' : World} {ad : Option Addr} {n base top : Nat} {now : Nat → Sp} {S : Nat → Prop} (h : NowR T w ad n base top now) (ht : Touch S w w') (hs : ∀ g, base ≤ g → g < top → ¬ S g) : NowR T w' ad n base top now := by
  intro hn
  obtain ⟨g, cap, f, h0, h1, h2, h3, h4, h5⟩ := h hn
  exact ⟨g, cap, f, h0, h1, h2, h3, h4.touch ht (hs g h1 h2), h5⟩
theorem NowR.drew {T : TypeId} {w : World} {ad : Option Addr} {n base top : Nat} {now : Nat → Sp} (h : NowR T w ad n base top now) : NowR T w.drew ad n base top now := h
theorem NowR.rd {T : TypeId} {w : World} {ad : Option Addr} {n base top : Nat} {now : Nat → Sp} (h : NowR T w ad n base top now) : Rd w ad (n * 3) (spF now) := by
  intro hn
  obtain ⟨g, cap, f, h0, h1, h2, h3, h4, h5⟩ := h (by omega)
  refine ⟨g, 0, h0, h4.lt, fun j hj => ?_⟩
  have hl : n * 3 ≤ cap * 3 := Nat.mul_le_mul_right 3 h3
  rw [Nat.zero_add, h4.cell (by omega), h5 j hj]
/-- What is known at one of its spaces. -/
theorem NowR.at_ {T : TypeId} {w : World} {ad : Option Addr} {n base top k : Nat} {now : Nat → Sp} (h : NowR T w ad n base top now) (hk : k < n) :
    ∃ g, ad = some ⟨g, 0, none⟩ ∧ base ≤ g ∧ g < top ∧ w.cell? ⟨g, k * 3, none⟩ = some (.int .i64 (now k).f) ∧ w.cell? ⟨g, k * 3 + 1, none⟩ = some (.int .i64 (now k).t) ∧ w.cell? ⟨g, k * 3 + 2, none⟩ = some (.int .i64 (now k).e) ∧
      w.frozen? ⟨g, k * 3, none⟩ = false ∧ w.frozen? ⟨g, k * 3 + 1, none⟩ = false ∧ w.frozen? ⟨g, k * 3 + 2, none⟩ = false := by
  obtain ⟨b, off, e, c0, c1, c2⟩ := h.rd.sp hk
  obtain ⟨g, cap, f, h0, h1, h2, h3, h4, h5⟩ := h (by omega)
  rw [h0] at e
  simp only [Option.some.injEq, Addr.mk.injEq] at e
  obtain ⟨rfl, rfl, _⟩ := e
  rw [Nat.zero_add] at c0 c1 c2
  exact ⟨g, h0, h1, h2, c0, c1, c2, h4.frozen _, h4.frozen _, h4.frozen _⟩
/-- A space of it is set as a whole. -/
theorem NowR.set {T : TypeId} {w : World} {g n base top k : Nat} {now : Nat → Sp} (h : NowR T w (some ⟨g, 0, none⟩) n base top now) (s : Sp) :
    NowR T (((w.setCell ⟨g, k * 3, none⟩ (.int .i64 s.f)).setCell ⟨g, k * 3 + 1, none⟩ (.int .i64 s.t)).setCell ⟨g, k * 3 + 2, none⟩ (.int .i64 s.e)) (some ⟨g, 0, none⟩) n base top (setS now k s) := by
  intro hn
  obtain ⟨g', cap, f, h0, h1, h2, h3, h4, h5⟩ := h hn
  simp only [Option.some.injEq, Addr.mk.injEq] at h0
  obtain ⟨rfl, _⟩ := h0
  refine ⟨g, cap, _, rfl, h1, h2, h3, ((h4.set (k * 3) _).set (k * 3 + 1) _).set (k * 3 + 2) _, fun j hj => ?_⟩
  unfold upd spF setS
  by_cases e0 : j = k * 3
  · subst e0
    have d : k * 3 / 3 = k := by omega
    rw [if_neg (by omega), if_neg (by omega), if_pos rfl, d]
    simp
  · by_cases e1 : j = k * 3 + 1
    · subst e1
      have d : (k * 3 + 1) / 3 = k := by omega
      rw [if_neg (by omega), if_pos rfl, d, if_neg (by omega), if_pos (by omega)]
      simp
    · by_cases e2 : j = k * 3 + 2
      · subst e2
        have d : (k * 3 + 2) / 3 = k := by omega
        rw [if_pos rfl, d, if_neg (by omega), if_neg (by omega)]
        simp
      · rw [if_neg e2, if_neg e1, if_neg e0, h5 j hj]
        have d : ¬ j / 3 = k := by omega
        unfold spF
        simp only [if_neg d]
theorem NowR.set1 {T : TypeId} {w : World} {g n base top k : Nat} {now : Nat → Sp} (h : NowR T w (some ⟨g, 0, none⟩) n base top now) (t : Int) :
    NowR T (w.setCell ⟨g, k * 3 + 1, none⟩ (.int .i64 t)) (some ⟨g, 0, none⟩) n base top (setS now k { now k with t := t }) := by
  intro hn
  obtain ⟨g', cap, f, h0, h1, h2, h3, h4, h5⟩ := h hn
  simp only [Option.some.injEq, Addr.mk.injEq] at h0
  obtain ⟨rfl, _⟩ := h0
  refine ⟨g, cap, _, rfl, h1, h2, h3, h4.set (k * 3 + 1) _, fun j hj => ?_⟩
  unfold upd setS
  by_cases e1 : j = k * 3 + 1
  · subst e1
    have d : (k * 3 + 1) / 3 = k := by omega
    unfold spF
    rw [if_pos rfl, d, if_neg (by omega), if_pos (by omega)]
    simp
  · rw [if_neg e1, h5 j hj]
    unfold spF
    by_cases d : j / 3 = k
    · rcases (by omega : j % 3 = 0 ∨ j % 3 = 2) with e | e
      · simp [e, d]
      · simp [e, d]
    · simp only [if_neg d]

end Go.Proofs.YtkjgfblkbjlohaaGreat
