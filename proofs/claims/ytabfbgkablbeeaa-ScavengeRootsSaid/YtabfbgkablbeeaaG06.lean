/- Layer 4, head: Of. -/
import Derived.Test.YtabfbgkablbeeaaG05
import Derived.Deep.RegionHeld3
import Derived.Deep.DeepCutAuto
import Derived.Deep.CutBlock
set_option linter.all false

namespace Go.Proofs.Ytabfbgkablbeeaa
open Go.RowKit

theorem run_has (ar : Array Value) (w : World) : (callFunc 87 ar).run Try.prog w = .ok (.enter 87 ar) w := by kernel_rfl
theorem has10 (W : Int) (b : Nat) (w : World) (h : w.cell? ⟨b, 0, none⟩ = some (.int .i64 W)) :
    Calls Try.prog 87 #[.int .i64 10, .pointer (some ⟨b, 0, none⟩)] w fun r w' => r = .returned (.bool (bits .and .i64 (W / 1024) 1 == 1)) ∧ w' = w := by
  go_enter Try.func87, Try.ntmps87
  go_wp2_with fail
  go_ret
  exact ⟨rfl, rfl⟩
theorem has11 (W : Int) (b : Nat) (w : World) (h : w.cell? ⟨b, 0, none⟩ = some (.int .i64 W)) :
    Calls Try.prog 87 #[.int .i64 11, .pointer (some ⟨b, 0, none⟩)] w fun r w' => r = .returned (.bool (bits .and .i64 (W / 2048) 1 == 1)) ∧ w' = w := by
  go_enter Try.func87, Try.ntmps87
  go_wp2_with fail
  go_ret
  exact ⟨rfl, rfl⟩
theorem has12 (W : Int) (b : Nat) (w : World) (h : w.cell? ⟨b, 0, none⟩ = some (.int .i64 W)) :
    Calls Try.prog 87 #[.int .i64 12, .pointer (some ⟨b, 0, none⟩)] w fun r w' => r = .returned (.bool (bits .and .i64 (W / 4096) 1 == 1)) ∧ w' = w := by
  go_enter Try.func87, Try.ntmps87
  go_wp2_with fail
  go_ret
  exact ⟨rfl, rfl⟩
theorem zero_hd (w : World) : (zeroValue 96).run Try.prog w = .ok (.agg #[.int .i64 0, .int .i64 0, .int .i64 0, .bool false, .bool false, .bool false]) w := by kernel_rfl
/-- What a word's parts are. -/
def rawH (W : Int) : Hd := ⟨bits .and .i64 W 63, bits .and .i64 (W / 64) 15, W / 8192, bits .and .i64 (W / 1024) 1 == 1, bits .and .i64 (W / 2048) 1 == 1, bits .and .i64 (W / 4096) 1 == 1⟩
def hd0 : Hd := ⟨0, 0, 0, false, false, false⟩

set_option maxHeartbeats 4000000 in
theorem of_core (W : Int) (w : World) (B : Bool) (hR : ∀ w, Calls Try.prog 84 #[.agg #[.int .i64 (bits .and .i64 W 63), .int .i64 (bits .and .i64 (W / 64) 15), .int .i64 (W / 8192), .bool (bits .and .i64 (W / 1024) 1 == 1), .bool (bits .and .i64 (W / 2048) 1 == 1), .bool (bits .and .i64 (W / 4096) 1 == 1)]] w fun r w' => r = .returned (.bool B) ∧ Keeps w w') :
    Calls Try.prog 81 #[.int .i64 W] w fun r w' => r = .returned (.tuple #[bif B then hdV (rawH W) else .agg #[.int .i64 0, .int .i64 0, .int .i64 0, .bool false, .bool false, .bool false], .int .i64 (bif B then 0 else 12)]) ∧ Keeps w w' := by
  have HR := Lib.hid hR
  clear hR
  have hz := zero_hd
  have G1 := Lib.hid (fun b w' h => has10 W b w' h)
  have G2 := Lib.hid (fun b w' h => has11 W b w' h)
  have G3 := Lib.hid (fun b w' h => has12 W b w' h)
  have hc := run_has
  go_enter Try.func81, Try.ntmps81
  go_wp2_with fail
  have c0 : ((w.alloc (.cells #[.int .i64 W] 3)).alloc (.cells #[.int .i64 0, .int .i64 0, .int .i64 0, .bool false, .bool false, .bool false] 96)).cell? ⟨w.heap.size, 0, none⟩ = some (.int .i64 W) := by
    rw [World.cell?_alloc_lt _ _ _ (by simp)]
    exact cell_of_row _ _ 0 _ _ _ (heap_alloc_new w _)
  have hB := Blk.made (w.alloc (.cells #[.int .i64 W] 3)) 6 96 (fun j => if j < 3 then .int .i64 0 else .bool false) #[.int .i64 0, .int .i64 0, .int .i64 0, .bool false, .bool false, .bool false] rfl (fun j hj => by rcases (by omega : j = 0 ∨ j = 1 ∨ j = 2 ∨ j = 3 ∨ j = 4 ∨ j = 5) with rfl | rfl | rfl | rfl | rfl | rfl <;> rfl)
  rw [World.size_alloc] at hB
  have HB := Lib.hid hB
  have K0 : Keeps w ((w.alloc (.cells #[.int .i64 W] 3)).alloc (.cells #[.int .i64 0, .int .i64 0, .int .i64 0, .bool false, .bool false, .bool false] 96)) := ((Touch.refl _ w).alloc _).alloc _
  have hlt : w.heap.size < ((w.alloc (.cells #[.int .i64 W] 3)).alloc (.cells #[.int .i64 0, .int .i64 0, .int .i64 0, .bool false, .bool false, .bool false] 96)).heap.size := by simp; omega
  have hrb : w.heap.size ≤ w.heap.size + 1 := by omega
  clear hB
  generalize ((w.alloc (.cells #[.int .i64 W] 3)).alloc (.cells #[.int .i64 0, .int .i64 0, .int .i64 0, .bool false, .bool false, .bool false] 96)) = wA at *
  generalize w.heap.size + 1 = rb at *
  generalize hbw : w.heap.size = bw at *
  have HRB := Lib.hid (show w.heap.size ≤ rb by omega)
  clear hbw hrb
  have H1 := Lib.hid (fun w' (h : (w'.cell? ⟨bw, 0, none⟩ = some (.int .i64 W) ∧ Keeps wA w')) => has10 W bw w' h.1)
  have H2 := Lib.hid (fun w' (h : (w'.cell? ⟨bw, 0, none⟩ = some (.int .i64 W) ∧ Keeps wA w')) => has11 W bw w' h.1)
  have H3 := Lib.hid (fun w' (h : (w'.cell? ⟨bw, 0, none⟩ = some (.int .i64 W) ∧ Keeps wA w')) => has12 W bw w' h.1)
  have HCD := Lib.hid (fun o => (show (wA.alloc o).drew.cell? ⟨bw, 0, none⟩ = some (.int .i64 W) from (World.cell?_alloc_lt wA _ _ hlt).trans c0))
  go_cut [5] (fun v wx => v = .pointer (some ⟨wA.heap.size, 0, none⟩) ∧ wx = (wA.alloc (.cells #[.int .i64 (bits .and .i64 W 63), .int .i64 (bits .and .i64 (W / 64) 15), .int .i64 (W / 8192), .bool (bits .and .i64 (W / 1024) 1 == 1), .bool (bits .and .i64 (W / 2048) 1 == 1), .bool (bits .and .i64 (W / 4096) 1 == 1)] 96)).drew)
  case first =>
    clear HR G1 G2 G3 HB K0 HRB
    refine wp_region_noPanic ?_
    refine wp_region_held_drew (S := (fun w' => w'.cell? ⟨bw, 0, none⟩ = some (.int .i64 W) ∧ Keeps wA w')) (by kernel_rfl) ⟨c0, (Touch.refl _ wA).drew⟩ (fun hHeld => ?_)
    refine' wpAnyH_take (i := 0) ?hi0 ?hs0 ?hf0 ?hr0 ?hQ0 ?hy0 (by assumption) ?rest0
    case hi0 => simp only [List.getElem?_toArray, List.getElem?_cons_zero]; rfl
    case hs0 => kernel_rfl
    case hf0 => kernel_rfl
    case hr0 => kernel_rfl
    case hQ0 => exact fun _ _ _ h => h
    case hy0 => exact Or.inl ⟨by rfl, fun w hSw => by obtain ⟨hS1, hS2⟩ := hSw; go_simp; try with_reducible rfl⟩
    simp only [Act.put, List.setIfInBounds_toArray, List.set_cons_zero, List.set_cons_succ]
    refine' wpAnyH_take (i := 1) ?hi1 ?hs1 ?hf1 ?hr1 ?hQ1 ?hy1 (by assumption) ?rest1
    case hi1 => simp only [List.getElem?_toArray, List.getElem?_cons_succ, List.getElem?_cons_zero]; rfl
    case hs1 => kernel_rfl
    case hf1 => kernel_rfl
    case hr1 => kernel_rfl
    case hQ1 => exact fun _ _ _ h => h
    case hy1 => exact Or.inl ⟨by rfl, fun w hSw => by obtain ⟨hS1, hS2⟩ := hSw; go_simp; try with_reducible rfl⟩
    simp only [Act.put, List.setIfInBounds_toArray, List.set_cons_zero, List.set_cons_succ]
    refine' wpAnyH_take (i := 2) ?hi2 ?hs2 ?hf2 ?hr2 ?hQ2 ?hy2 (by assumption) ?rest2
    case hi2 => simp only [List.getElem?_toArray, List.getElem?_cons_succ, List.getElem?_cons_zero]; rfl
    case hs2 => kernel_rfl
    case hf2 => kernel_rfl
    case hr2 => kernel_rfl
    case hQ2 => exact fun _ _ _ h => h
    case hy2 => exact Or.inl ⟨by rfl, fun w hSw => by obtain ⟨hS1, hS2⟩ := hSw; go_simp; try with_reducible rfl⟩
    simp only [Act.put, List.setIfInBounds_toArray, List.set_cons_zero, List.set_cons_succ]
    refine' wpAnyH_take (i := 3) ?hi3 ?hs3 ?hf3 ?hr3 ?hQ3 ?hy3 (by assumption) ?rest3
    case hi3 => simp only [List.getElem?_toArray, List.getElem?_cons_succ, List.getElem?_cons_zero]; rfl
    case hs3 => kernel_rfl
    case hf3 => kernel_rfl
    case hr3 => kernel_rfl
    case hQ3 => exact fun _ _ _ h => h
    case hy3 => exact Or.inl ⟨by rfl, fun w hSw => by obtain ⟨hS1, hS2⟩ := hSw; go_simp; try with_reducible rfl⟩
    simp only [Act.put, List.setIfInBounds_toArray, List.set_cons_zero, List.set_cons_succ]
    refine' wpAnyH_take (i := 4) ?hi4 ?hs4 ?hf4 ?hr4 ?hQ4 ?hy4 (by assumption) ?rest4
    case hi4 => simp only [List.getElem?_toArray, List.getElem?_cons_succ, List.getElem?_cons_zero]; rfl
    case hs4 => kernel_rfl
    case hf4 => kernel_rfl
    case hr4 => kernel_rfl
    case hQ4 => exact fun _ _ _ h => h
    case hy4 => exact Or.inl ⟨by rfl, fun w hSw => by obtain ⟨hS1, hS2⟩ := hSw; go_simp; try with_reducible rfl⟩
    simp only [Act.put, List.setIfInBounds_toArray, List.set_cons_zero, List.set_cons_succ]
    refine' wpAnyH_take (i := 5) ?hi5 ?hs5 ?hf5 ?hr5 ?hQ5 ?hy5 (by assumption) ?rest5
    case hi5 => simp only [List.getElem?_toArray, List.getElem?_cons_succ, List.getElem?_cons_zero]; rfl
    case hs5 => kernel_rfl
    case hf5 => kernel_rfl
    case hr5 => kernel_rfl
    case hQ5 => exact fun _ _ _ h => h
    case hy5 => exact Or.inl ⟨by rfl, fun w hSw => by obtain ⟨hS1, hS2⟩ := hSw; go_simp; try with_reducible rfl⟩
    simp only [Act.put, List.setIfInBounds_toArray, List.set_cons_zero, List.set_cons_succ]
    refine' wpAnyH_take (i := 6) ?hi6 ?hs6 ?hf6 ?hr6 ?hQ6 ?hy6 (by assumption) ?rest6
    case hi6 => simp only [List.getElem?_toArray, List.getElem?_cons_succ, List.getElem?_cons_zero]; rfl
    case hs6 => kernel_rfl
    case hf6 => kernel_rfl
    case hr6 => kernel_rfl
    case hQ6 => exact fun _ _ _ h => h
    case hy6 => exact Or.inl ⟨by rfl, fun w hSw => by obtain ⟨hS1, hS2⟩ := hSw; go_simp; try with_reducible rfl⟩
    simp only [Act.put, List.setIfInBounds_toArray, List.set_cons_zero, List.set_cons_succ]
    refine' wpAnyH_take (i := 7) ?hi7 ?hs7 ?hf7 ?hr7 ?hQ7 ?hy7 (by assumption) ?rest7
    case hi7 => simp only [List.getElem?_toArray, List.getElem?_cons_succ, List.getElem?_cons_zero]; rfl
    case hs7 => kernel_rfl
    case hf7 => kernel_rfl
    case hr7 => kernel_rfl
    case hQ7 => exact fun _ _ _ h => h
    case hy7 => exact Or.inl ⟨by rfl, fun w hSw => by obtain ⟨hS1, hS2⟩ := hSw; go_simp; try with_reducible rfl⟩
    simp only [Act.put, List.setIfInBounds_toArray, List.set_cons_zero, List.set_cons_succ]
    refine' take_call (i := 8) ?hi8 ?hs8 ?hf8 ?hr8 ?hQ8 ?hy8 (by assumption) ?rest8
    case hi8 => simp only [List.getElem?_toArray, List.getElem?_cons_succ, List.getElem?_cons_zero]; rfl
    case hs8 => kernel_rfl
    case hf8 => kernel_rfl
    case hr8 => kernel_rfl
    case hQ8 => exact fun _ _ _ h => h
    case hy8 => exact ⟨by rfl, fun w hSw => ⟨87, #[.int .i64 10, .pointer (some ⟨bw, 0, none⟩)], by go_simp; try with_reducible rfl, (H1.out w hSw).mono fun _ _ h => ⟨h.1, h.2.symm⟩⟩⟩
    simp only [Act.put, List.setIfInBounds_toArray, List.set_cons_zero, List.set_cons_succ]
    refine' wpAnyH_take (i := 9) ?hi9 ?hs9 ?hf9 ?hr9 ?hQ9 ?hy9 (by assumption) ?rest9
    case hi9 => simp only [List.getElem?_toArray, List.getElem?_cons_succ, List.getElem?_cons_zero]; rfl
    case hs9 => kernel_rfl
    case hf9 => kernel_rfl
    case hr9 => kernel_rfl
    case hQ9 => exact fun _ _ _ h => h
    case hy9 => exact Or.inl ⟨by rfl, fun w hSw => by obtain ⟨hS1, hS2⟩ := hSw; go_simp; try with_reducible rfl⟩
    simp only [Act.put, List.setIfInBounds_toArray, List.set_cons_zero, List.set_cons_succ]
    refine' take_call (i := 10) ?hi10 ?hs10 ?hf10 ?hr10 ?hQ10 ?hy10 (by assumption) ?rest10
    case hi10 => simp only [List.getElem?_toArray, List.getElem?_cons_succ, List.getElem?_cons_zero]; rfl
    case hs10 => kernel_rfl
    case hf10 => kernel_rfl
    case hr10 => kernel_rfl
    case hQ10 => exact fun _ _ _ h => h
    case hy10 => exact ⟨by rfl, fun w hSw => ⟨87, #[.int .i64 11, .pointer (some ⟨bw, 0, none⟩)], by go_simp; try with_reducible rfl, (H2.out w hSw).mono fun _ _ h => ⟨h.1, h.2.symm⟩⟩⟩
    simp only [Act.put, List.setIfInBounds_toArray, List.set_cons_zero, List.set_cons_succ]
    refine' wpAnyH_take (i := 11) ?hi11 ?hs11 ?hf11 ?hr11 ?hQ11 ?hy11 (by assumption) ?rest11
    case hi11 => simp only [List.getElem?_toArray, List.getElem?_cons_succ, List.getElem?_cons_zero]; rfl
    case hs11 => kernel_rfl
    case hf11 => kernel_rfl
    case hr11 => kernel_rfl
    case hQ11 => exact fun _ _ _ h => h
    case hy11 => exact Or.inl ⟨by rfl, fun w hSw => by obtain ⟨hS1, hS2⟩ := hSw; go_simp; try with_reducible rfl⟩
    simp only [Act.put, List.setIfInBounds_toArray, List.set_cons_zero, List.set_cons_succ]
    refine' take_call (i := 12) ?hi12 ?hs12 ?hf12 ?hr12 ?hQ12 ?hy12 (by assumption) ?rest12
    case hi12 => simp only [List.getElem?_toArray, List.getElem?_cons_succ, List.getElem?_cons_zero]; rfl
    case hs12 => kernel_rfl
    case hf12 => kernel_rfl
    case hr12 => kernel_rfl
    case hQ12 => exact fun _ _ _ h => h
    case hy12 => exact ⟨by rfl, fun w hSw => ⟨87, #[.int .i64 12, .pointer (some ⟨bw, 0, none⟩)], by go_simp; try with_reducible rfl, (H3.out w hSw).mono fun _ _ h => ⟨h.1, h.2.symm⟩⟩⟩
    simp only [Act.put, List.setIfInBounds_toArray, List.set_cons_zero, List.set_cons_succ]
    refine' wpAnyH_take (i := 13) ?hi13 ?hs13 ?hf13 ?hr13 ?hQ13 ?hy13 (by assumption) ?rest13
    case hi13 => simp only [List.getElem?_toArray, List.getElem?_cons_succ, List.getElem?_cons_zero]; rfl
    case hs13 => kernel_rfl
    case hf13 => kernel_rfl
    case hr13 => kernel_rfl
    case hQ13 => exact fun _ _ _ h => h
    case hy13 => exact Or.inl ⟨by rfl, fun w hSw => by obtain ⟨hS1, hS2⟩ := hSw; go_simp; try with_reducible rfl⟩
    simp only [Act.put, List.setIfInBounds_toArray, List.set_cons_zero, List.set_cons_succ]
    refine wpAnyH_ready (rs := [14]) (by kernel_rfl) (by simp) ?_
    refine AllReadyH.cons rfl (fun K hK => ?_) AllReadyH.nil
    go_simp
    refine hK.out _ _ ⟨HCD.out _, ((Touch.refl _ wA).alloc _).drew⟩ (fun hHeld => ?_)
    clear hK K
    refine wpAnyH_ready (rs := [15]) (by kernel_rfl) (by simp) ?_
    refine AllReadyH.cons rfl (fun K hK => ?_) AllReadyH.nil
    go_simp
    refine hK.out _ _ ⟨HCD.out _, ((Touch.refl _ wA).alloc _).drew⟩ (fun hHeld => ?_)
    clear hK K
    refine wpAnyH_done (by kernel_rfl) ?_ _
    refine NoPanic.normal ?_
    go_wp2_with fail
    go_meet
    exact ⟨rfl, rfl⟩
  case rest =>
    obtain ⟨rfl, rfl⟩ := hcut
    clear H1 H2 H3 G1 G2 G3 hc HCD hz
    have hB2 := Blk.drew (Blk.made wA 6 96 (fun j => if j = 0 then .int .i64 (bits .and .i64 W 63) else if j = 1 then .int .i64 (bits .and .i64 (W / 64) 15) else if j = 2 then .int .i64 (W / 8192) else if j = 3 then .bool (bits .and .i64 (W / 1024) 1 == 1) else if j = 4 then .bool (bits .and .i64 (W / 2048) 1 == 1) else .bool (bits .and .i64 (W / 4096) 1 == 1)) #[.int .i64 (bits .and .i64 W 63), .int .i64 (bits .and .i64 (W / 64) 15), .int .i64 (W / 8192), .bool (bits .and .i64 (W / 1024) 1 == 1), .bool (bits .and .i64 (W / 2048) 1 == 1), .bool (bits .and .i64 (W / 4096) 1 == 1)] rfl (fun j hj => by rcases (by omega : j = 0 ∨ j = 1 ∨ j = 2 ∨ j = 3 ∨ j = 4 ∨ j = 5) with rfl | rfl | rfl | rfl | rfl | rfl <;> rfl))
    have hBr := (HB.out.alloc (.cells #[.int .i64 (bits .and .i64 W 63), .int .i64 (bits .and .i64 (W / 64) 15), .int .i64 (W / 8192), .bool (bits .and .i64 (W / 1024) 1 == 1), .bool (bits .and .i64 (W / 2048) 1 == 1), .bool (bits .and .i64 (W / 4096) 1 == 1)] 96)).drew
    have K1 := (K0.alloc (.cells #[.int .i64 (bits .and .i64 W 63), .int .i64 (bits .and .i64 (W / 64) 15), .int .i64 (W / 8192), .bool (bits .and .i64 (W / 1024) 1 == 1), .bool (bits .and .i64 (W / 2048) 1 == 1), .bool (bits .and .i64 (W / 4096) 1 == 1)] 96)).drew
    have HE := Lib.hid (show hdV (rawH W) = .agg #[.int .i64 (bits .and .i64 W 63), .int .i64 (bits .and .i64 (W / 64) 15), .int .i64 (W / 8192), .bool (bits .and .i64 (W / 1024) 1 == 1), .bool (bits .and .i64 (W / 2048) 1 == 1), .bool (bits .and .i64 (W / 4096) 1 == 1)] from rfl)
    clear HB K0 hlt c0
    generalize (wA.alloc (.cells #[.int .i64 (bits .and .i64 W 63), .int .i64 (bits .and .i64 (W / 64) 15), .int .i64 (W / 8192), .bool (bits .and .i64 (W / 1024) 1 == 1), .bool (bits .and .i64 (W / 2048) 1 == 1), .bool (bits .and .i64 (W / 4096) 1 == 1)] 96)).drew = w2 at *
    generalize wA.heap.size = bn at *
    generalize bits .and .i64 W 63 = x0 at *
    generalize bits .and .i64 (W / 64) 15 = x1 at *
    generalize W / 8192 = x2 at *
    generalize (bits .and .i64 (W / 1024) 1 == 1) = x3 at *
    generalize (bits .and .i64 (W / 2048) 1 == 1) = x4 at *
    generalize (bits .and .i64 (W / 4096) 1 == 1) = x5 at *
    have a0 : w2.cell? ⟨bn, 0, none⟩ = some (.int .i64 x0) := hB2.cell (j := 0) (by omega)
    have a1 : w2.cell? ⟨bn, 1, none⟩ = some (.int .i64 x1) := hB2.cell (j := 1) (by omega)
    have a2 : w2.cell? ⟨bn, 2, none⟩ = some (.int .i64 x2) := hB2.cell (j := 2) (by omega)
    have a3 : w2.cell? ⟨bn, 3, none⟩ = some (.bool x3) := hB2.cell (j := 3) (by omega)
    have a4 : w2.cell? ⟨bn, 4, none⟩ = some (.bool x4) := hB2.cell (j := 4) (by omega)
    have a5 : w2.cell? ⟨bn, 5, none⟩ = some (.bool x5) := hB2.cell (j := 5) (by omega)
    go_wp2_with fail
    refine (HR.out _).mono ?_
    rintro r w3 ⟨rfl, k3⟩
    have K3 := Keeps.trans K1 k3
    have hB3 := Blk.touch hB2 k3 (fun h => h)
    have hBr3 := Blk.touch hBr k3 (fun h => h)
    clear a0 a1 a2 a3 a4 a5 hB2 hBr K1 k3
    have a0 : w3.cell? ⟨bn, 0, none⟩ = some (.int .i64 x0) := hB3.cell (j := 0) (by omega)
    have a1 : w3.cell? ⟨bn, 1, none⟩ = some (.int .i64 x1) := hB3.cell (j := 1) (by omega)
    have a2 : w3.cell? ⟨bn, 2, none⟩ = some (.int .i64 x2) := hB3.cell (j := 2) (by omega)
    have a3 : w3.cell? ⟨bn, 3, none⟩ = some (.bool x3) := hB3.cell (j := 3) (by omega)
    have a4 : w3.cell? ⟨bn, 4, none⟩ = some (.bool x4) := hB3.cell (j := 4) (by omega)
    have a5 : w3.cell? ⟨bn, 5, none⟩ = some (.bool x5) := hB3.cell (j := 5) (by omega)
    have b0 := hBr3.cell (j := 0) (by omega)
    have b1 := hBr3.cell (j := 1) (by omega)
    have b2 := hBr3.cell (j := 2) (by omega)
    have b3 := hBr3.cell (j := 3) (by omega)
    have b4 := hBr3.cell (j := 4) (by omega)
    have b5 := hBr3.cell (j := 5) (by omega)
    have f0 := hBr3.frozen 0
    have f1 := hBr3.frozen 1
    have f2 := hBr3.frozen 2
    have f3 := hBr3.frozen 3
    have f4 := hBr3.frozen 4
    have f5 := hBr3.frozen 5
    cases B with
    | true =>
      have HBR := Lib.hid hBr3
      have KF := Lib.hid (K3.new (((((((Only.refl rb w3).set 0 (.int .i64 x0)).set 1 (.int .i64 x1)).set 2 (.int .i64 x2)).set 3 (.bool x3)).set 4 (.bool x4)).set 5 (.bool x5)) HRB.out)
      clear hB3 hBr3 K3
      go_wp2_with fail
      have hs := (((((HBR.out.set 0 (.int .i64 x0)).set 1 (.int .i64 x1)).set 2 (.int .i64 x2)).set 3 (.bool x3)).set 4 (.bool x4)).set 5 (.bool x5)
      have s0 := hs.cell (j := 0) (by omega)
      have s1 := hs.cell (j := 1) (by omega)
      have s2 := hs.cell (j := 2) (by omega)
      have s3 := hs.cell (j := 3) (by omega)
      have s4 := hs.cell (j := 4) (by omega)
      have s5 := hs.cell (j := 5) (by omega)
      simp [upd] at s0 s1 s2 s3 s4 s5
      refine bodyPost_ret (v := .tuple #[.agg #[.int .i64 x0, .int .i64 x1, .int .i64 x2, .bool x3, .bool x4, .bool x5], .int .i64 0]) (by simp [results, Try.results81, go_sem, s0, s1, s2, s3, s4, s5]) rfl ?_
      exact ⟨by rw [cond_true, cond_true, HE.out], KF.out⟩
    | false =>
      have HBR := Lib.hid hBr3
      have KF := Lib.hid (K3.new (((((((Only.refl rb w3).set 0 (.int .i64 0)).set 1 (.int .i64 0)).set 2 (.int .i64 0)).set 3 (.bool false)).set 4 (.bool false)).set 5 (.bool false)) HRB.out)
      clear hB3 hBr3 K3
      have hz := zero_hd
      go_wp2_with fail
      have hs := (((((HBR.out.set 0 (.int .i64 0)).set 1 (.int .i64 0)).set 2 (.int .i64 0)).set 3 (.bool false)).set 4 (.bool false)).set 5 (.bool false)
      have s0 := hs.cell (j := 0) (by omega)
      have s1 := hs.cell (j := 1) (by omega)
      have s2 := hs.cell (j := 2) (by omega)
      have s3 := hs.cell (j := 3) (by omega)
      have s4 := hs.cell (j := 4) (by omega)
      have s5 := hs.cell (j := 5) (by omega)
      simp [upd] at s0 s1 s2 s3 s4 s5
      refine bodyPost_ret (v := .tuple #[.agg #[.int .i64 0, .int .i64 0, .int .i64 0, .bool false, .bool false, .bool false], .int .i64 12]) (by simp [results, Try.results81, go_sem, s0, s1, s2, s3, s4, s5]) rfl ?_
      exact ⟨rfl, KF.out⟩

theorem of_any (W : Int) (w : World) :
    Calls Try.prog 81 #[.int .i64 W] w fun r w' => r = .returned (.tuple #[hdV (if (rawH W).ok then rawH W else hd0), .int .i64 (if (rawH W).ok then 0 else 12)]) ∧ Keeps w w' := by
  have h := of_core W w (decide (rawH W).ok) (fun w => hright_any (rawH W) w)
  refine h.mono ?_
  rintro r w' ⟨rfl, k⟩
  refine ⟨?_, k⟩
  by_cases hk : (rawH W).ok
  · rw [if_pos hk, if_pos hk, decide_eq_true hk]; rfl
  · rw [if_neg hk, if_neg hk, decide_eq_false hk]; rfl

end Go.Proofs.Ytabfbgkablbeeaa
