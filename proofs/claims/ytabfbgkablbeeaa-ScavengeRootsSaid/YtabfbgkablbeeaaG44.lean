/- Layer 15's awake. -/
import Derived.Test.YtabfbgkablbeeaaG43
import Derived.BigQuiet
set_option linter.all false

namespace Go.Proofs.Ytabfbgkablbeeaa
open Go.RowKit

theorem sz_young_ : (Try.prog.info? 38).map (·.size) = some 13 := by kernel_rfl
set_option maxRecDepth 100000 in
set_option maxHeartbeats 4000000 in
theorem awake_any (w : World) : Calls Try.prog 5 #[] w fun e w' => e = .returned (.bool true) ∧ Keeps w w' := by
  have HMd := Lib.hid (fun A1 A2 A4 wx h => made_any wx A1 1 1 awC A2 1 1 awT none 0 0 (fun _ => 0) A4 1 1 (fun _ => 1) 50 1 h)
  have hzl := zero_life
  have hzy := zero_young
  go_enter Try.func5, Try.ntmps5
  go_wp2_with fail
  refine named (fun w1 hW1 => ?_)
  have K1 : Keeps w w1 := by rw [hW1]; exact (((Touch.refl _ w).alloc _).alloc _).alloc _
  have B1 : BL w1 w.heap.size 53 [.int .i64 1, .int .i64 0, .int .i64 1, .bool false] := by rw [hW1]; exact ((BL.new1 w _ _ [.int .i64 1, .int .i64 0, .int .i64 1, .bool false] _ rfl rfl).alloc _).alloc _
  have B2 : BL w1 (w.heap.size + 1) 29 [.int .u8 0, .int .u8 0, .int .u8 0, .int .u8 7] := by rw [hW1]; exact (BL.new1 _ _ _ [.int .u8 0, .int .u8 0, .int .u8 0, .int .u8 7] _ (by simp) rfl).alloc _
  have B3 : BL w1 (w.heap.size + 2) 5 [.int .u8 1] := by rw [hW1]; exact BL.new1 _ _ _ [.int .u8 1] _ (by simp) rfl
  have z1 : w1.heap.size = w.heap.size + 3 := by rw [hW1]; simp
  clear hW1
  have hR3 : Rd w1 (some ⟨w.heap.size + 2, 0, none⟩) 1 (intF .u8 fun _ => 1) := fun _ => ⟨_, 0, rfl, B3.lt, fun j hj => by
    obtain rfl : j = 0 := by omega
    exact B3.c 0 _ rfl⟩
  have hWA : WArg w1 (some ⟨w.heap.size, 0, none⟩) 1 1 awC (some ⟨w.heap.size + 1, 0, none⟩) 1 awT none 0 (fun _ => 0) (some ⟨w.heap.size + 2, 0, none⟩) 1 (fun _ => 1) 50 1 :=
    ⟨fun _ => ⟨_, 0, rfl, B1.lt, fun j hj => by rcases (by omega : j = 0 ∨ j = 1 ∨ j = 2 ∨ j = 3) with rfl | rfl | rfl | rfl <;> exact B1.c _ _ rfl⟩, fun h => (by cases h), by decide,
     fun _ => ⟨_, 0, rfl, B2.lt, fun j hj => by rcases (by omega : j = 0 ∨ j = 1 ∨ j = 2 ∨ j = 3) with rfl | rfl | rfl | rfl <;> exact B2.c _ _ rfl⟩, fun i hi => ⟨⟨by show (0 : Int) ≤ 0; decide, by show (0 : Int) ≤ 255; decide⟩, ⟨by show (0 : Int) ≤ 0; decide, by show (0 : Int) ≤ 255; decide⟩, ⟨by show (0 : Int) ≤ 0; decide, by show (0 : Int) ≤ 255; decide⟩, by show (0 : Int) ≤ 7; decide, by show (7 : Int) ≤ 255; decide⟩, by decide,
     fun h => absurd h (by omega), fun i hi => ⟨by show (0 : Int) ≤ 0; decide, by show (0 : Int) ≤ 255; decide⟩, by decide, hR3, fun i hi => ⟨by show (0 : Int) ≤ 1; decide, by show (1 : Int) ≤ 255; decide⟩, by decide, ⟨by decide, by decide⟩, by decide, by decide⟩
  refine Calls.mono (HMd.out _ _ _ _ hWA) ?_
  clear HMd B1 B2 B3 hWA
  rintro e w2 (⟨hn, _⟩ | ⟨xb, ba, bw, bt, A, cap, av, rov, tb, mb, vb, D, base, rfl, hM, _, k2⟩)
  · exact absurd aw_good hn
  · have K2 := Keeps.trans K1 k2
    obtain ⟨y, hy⟩ : ∃ y, y = awY := ⟨_, rfl⟩
    have e1 : (wd15 1 awC 1 awT 0 (fun _ => 0) 50).sp (beg15 (50 % 101)) (end15 (50 % 101)) = y := by rw [hy]; rfl
    rw [e1]
    obtain ⟨ra, rc, hrv⟩ := hM.roots.form
    obtain ⟨aa, ac, hav⟩ := hM.at_.form
    have hal : (wd15 1 awC 1 awT 0 (fun _ => 0) 50).at_.length = 1 := by kernel_rfl
    rw [hal] at hav
    subst hav
    have hrr : (rootsN (wd15 1 awC 1 awT 0 (fun _ => 0) 50) (fun _ => 1) 1).length = 1 := rfl
    rw [hrr] at hrv
    subst hrv
    have HM := Lib.hid hM
    have HY := Lib.hid hy
    have hlo := hM.pl.lo
    have hhi := hM.pl.hi
    have hz := hM.z
    have z2 := k2.size
    have x11 : (1 : Int) % 8 = 1 := by decide
    rw [x11]
    clear K1 k2 hM hy e1
    unfold lifeV
    go_wp2_with (first | (refine store_bl ?_ 42 (.tmp 1) (.tmp 14) ?_ (BL.new1 w2 42 _ [.pointer none, .pointer none, .pointer none, .pointer none, .int .i64 0, .int .i64 0, .int .i64 0, .int .i64 0, .int .i64 0, .int .i64 0, .int .i64 0, .int .i64 0, .int .i64 0, .int .i64 0, .int .i64 0, .int .i64 0, .int .i64 0, .slice none 0 0, .slice none 0 0, .pointer none, .slice none 0 0] w2.heap.size rfl rfl) ?_ [.pointer (some ⟨ba, 0, none⟩), .pointer (some ⟨bt, 0, none⟩), .pointer (some ⟨ba, 0, none⟩), .pointer (some ⟨bt, 0, none⟩), .int .i64 (y 0).f, .int .i64 (y 0).t, .int .i64 (y 0).e, .int .i64 (y 1).f, .int .i64 (y 1).t, .int .i64 (y 1).e, .int .i64 (y 2).f, .int .i64 (y 2).t, .int .i64 (y 2).e, .int .i64 (y 3).f, .int .i64 (y 3).t, .int .i64 (y 3).e, .int .i64 1, .slice aa 1 ac, .slice ra 1 rc, .pointer (some ⟨tb, 0, none⟩), .slice (some ⟨w.heap.size, 0, none⟩) 1 1] ?_ sz_life rfl rfl ?_; rfl; rfl; rfl; rfl; intro w3 BX kBX; have l0 := BX.c 0 _ rfl; have l1 := BX.c 1 _ rfl; have l4 := BX.c 4 _ rfl; have l5 := BX.c 5 _ rfl; have l6 := BX.c 6 _ rfl; have l7 := BX.c 7 _ rfl; have l8 := BX.c 8 _ rfl; have l9 := BX.c 9 _ rfl; have l10 := BX.c 10 _ rfl; have l11 := BX.c 11 _ rfl; have l12 := BX.c 12 _ rfl; have l13 := BX.c 13 _ rfl; have l14 := BX.c 14 _ rfl; have l15 := BX.c 15 _ rfl; have l16 := BX.c 16 _ rfl; have l18 := BX.c 18 _ rfl; have l19 := BX.c 19 _ rfl))
    have k23 : Keeps w2 w3 := Touch.new ((Touch.refl _ w2).alloc _) kBX (Nat.le_refl _)
    have B3 := BX
    have HM3 := Lib.hid (HM.out.keep k23)
    have K3 := Keeps.trans K2 k23
    have z3 := k23.size
    have hxl := B3.lt
    clear K2 HM kBX
    have HRun := Lib.hid (HM3.out.run aw_ok (by show awW.t 3 = 651; kernel_rfl) ⟨by decide, by decide⟩ ⟨by decide, by decide⟩ (by decide) (rc := rc) rfl (by decide) (fun x hx => by
      have hx' : x ∈ rootsN awW (fun _ => 1) 1 := hx
      rw [aw_roots] at hx'
      exact .inr ((aw_ok.mem x).2 ⟨1, by decide, by rw [aw_g1]; exact hx'⟩)) y HY.out (thr := 1))
    refine Calls.mono HRun.out ?_
    clear HRun
    rintro e w4' (⟨hF, _⟩ | ⟨_, s', out, ov, D', hR, rfl, _, hout, _, _, k4⟩)
    · rw [HY.out] at hF; exact absurd hF aw_used
    · rw [HY.out] at hR
      obtain ⟨q1, q2⟩ := aw_run hR
      subst q1
      obtain ⟨oa, oc, hov⟩ := hout.form
      subst hov
      have hbw : ¬ (w2.heap.size = bw ∨ w2.heap.size = vb) := by omega
      have B4 := B3.touch k4 hbw
      have K4 : Keeps w w4' := Touch.trans K3 k4 (fun x e hx => by omega)
      have z4 := k4.size
      obtain ⟨ob, oo, hoe, r0'⟩ := hout.rd.1.one (k := 0) (by decide)
      subst hoe
      have hol := (hout.lt ob rfl).2
      obtain ⟨z, hz0⟩ : ∃ z : Nat → Sp, z = fun j => if j = 3 then emp (y 2) else nxL y s' j := ⟨_, rfl⟩
      rw [← hz0]
      have hE1 : rightB (z 1) = true ∧ (z 1).t - (z 1).f = 0 := by rw [hz0, HY.out]; exact ⟨by kernel_rfl, by kernel_rfl⟩
      have hE2 : (z 2).t - (z 2).f = 3 ∧ rightB (z 2) = true := by rw [hz0]; show s'.tt.t - s'.tt.f = 3 ∧ rightB s'.tt = true; rw [q2]; exact ⟨by decide, by decide⟩
      have HU1 := Lib.hid (fun wx => used_any (z 1) wx hE1.1)
      have HU2 := Lib.hid (fun wx => used_any (z 2) wx hE2.2)
      rw [hE1.2] at HU1
      rw [hE2.1] at HU2
      have HM3x := HM3
      clear hR q2 hE1 hE2 hz0 HM3 HM3x
      unfold youngV
      clear l0 l1 l4 l5 l6 l7 l8 l9 l10 l11 l12 l13 l14 l15 l16 l18 l19
      go_wp2_with (first | (refine store_bl ?_ 38 (.tmp 4) (.tmp 31) ?_ (BL.new1 w4' 38 _ [.int .i64 0, .int .i64 0, .int .i64 0, .int .i64 0, .int .i64 0, .int .i64 0, .int .i64 0, .int .i64 0, .int .i64 0, .int .i64 0, .int .i64 0, .int .i64 0, .int .i64 0] w4'.heap.size rfl rfl) ?_ [.int .i64 (z 0).f, .int .i64 (z 0).t, .int .i64 (z 0).e, .int .i64 (z 1).f, .int .i64 (z 1).t, .int .i64 (z 1).e, .int .i64 (z 2).f, .int .i64 (z 2).t, .int .i64 (z 2).e, .int .i64 (z 3).f, .int .i64 (z 3).t, .int .i64 (z 3).e, .int .i64 1] ?_ sz_young_ rfl rfl ?_; rfl; rfl; rfl; rfl; intro w4 BY kBY; skip))
      have k45 : Keeps w4' w4 := Touch.new ((Touch.refl _ w4').alloc _) kBY (Nat.le_refl _)
      have BY4 := BY
      have BX4 := B4.keep k45
      have K5 := Keeps.trans K4 k45
      have r0 : w4.cell? ⟨ob, oo, none⟩ = some (.int .i64 651) := cell_keep r0' k45
      have x13 : w4.cell? ⟨w2.heap.size, 13, none⟩ = some (.int .i64 651) := by rw [BX4.c 13 _ rfl, HY.out]; rfl
      have yc3 := BY4.c 3 _ rfl
      have yc4 := BY4.c 4 _ rfl
      have yc5 := BY4.c 5 _ rfl
      have yc6 := BY4.c 6 _ rfl
      have yc7 := BY4.c 7 _ rfl
      have yc8 := BY4.c 8 _ rfl
      clear kBY B4 K4 k45 r0' k4 hout
      unfold agg at *
      try go_wp2_with fail
      refine wp_region_noPanic ?_
      refine wp_region_held_drew (S := (fun w' => Keeps w4 w')) (by kernel_rfl) (Touch.refl _ w4).drew (fun hHeld => ?_)
      refine' wpAnyH_take (i := 0) ?hi0_1 ?hs0_1 ?hf0_1 ?hr0_1 ?hQ0_1 ?hy0_1 (by assumption) ?rest0_1
      case hi0_1 => simp only [List.getElem?_toArray, List.getElem?_cons_zero] <;> rfl
      case hs0_1 => kernel_rfl
      case hf0_1 => kernel_rfl
      case hr0_1 => kernel_rfl
      case hQ0_1 => exact fun _ _ _ h => h
      case hy0_1 => exact Or.inl ⟨by rfl, fun w hSw => by have q0 := cell_keep x13 hSw; have q1 := cell_keep r0 hSw; have y3 := cell_keep yc3 hSw; have y4 := cell_keep yc4 hSw; have y5 := cell_keep yc5 hSw; have y6 := cell_keep yc6 hSw; have y7 := cell_keep yc7 hSw; have y8 := cell_keep yc8 hSw; go_simp <;> (try with_reducible rfl)⟩
      simp only [Act.put, List.setIfInBounds_toArray, List.set_cons_zero, List.set_cons_succ]
      refine' wpAnyH_take (i := 1) ?hi1_1 ?hs1_1 ?hf1_1 ?hr1_1 ?hQ1_1 ?hy1_1 (by assumption) ?rest1_1
      case hi1_1 => simp only [List.getElem?_toArray, List.getElem?_cons_succ, List.getElem?_cons_zero] <;> rfl
      case hs1_1 => kernel_rfl
      case hf1_1 => kernel_rfl
      case hr1_1 => kernel_rfl
      case hQ1_1 => exact fun _ _ _ h => h
      case hy1_1 => exact Or.inl ⟨by rfl, fun w hSw => by have q0 := cell_keep x13 hSw; have q1 := cell_keep r0 hSw; have y3 := cell_keep yc3 hSw; have y4 := cell_keep yc4 hSw; have y5 := cell_keep yc5 hSw; have y6 := cell_keep yc6 hSw; have y7 := cell_keep yc7 hSw; have y8 := cell_keep yc8 hSw; go_simp <;> (try with_reducible rfl)⟩
      simp only [Act.put, List.setIfInBounds_toArray, List.set_cons_zero, List.set_cons_succ]
      refine' wpAnyH_take (i := 2) ?hi2_1 ?hs2_1 ?hf2_1 ?hr2_1 ?hQ2_1 ?hy2_1 (by assumption) ?rest2_1
      case hi2_1 => simp only [List.getElem?_toArray, List.getElem?_cons_succ, List.getElem?_cons_zero] <;> rfl
      case hs2_1 => kernel_rfl
      case hf2_1 => kernel_rfl
      case hr2_1 => kernel_rfl
      case hQ2_1 => exact fun _ _ _ h => h
      case hy2_1 => exact Or.inl ⟨by rfl, fun w hSw => by have q0 := cell_keep x13 hSw; have q1 := cell_keep r0 hSw; have y3 := cell_keep yc3 hSw; have y4 := cell_keep yc4 hSw; have y5 := cell_keep yc5 hSw; have y6 := cell_keep yc6 hSw; have y7 := cell_keep yc7 hSw; have y8 := cell_keep yc8 hSw; go_simp <;> (try with_reducible rfl)⟩
      simp only [Act.put, List.setIfInBounds_toArray, List.set_cons_zero, List.set_cons_succ]
      refine' wpAnyH_take (i := 3) ?hi3_1 ?hs3_1 ?hf3_1 ?hr3_1 ?hQ3_1 ?hy3_1 (by assumption) ?rest3_1
      case hi3_1 => simp only [List.getElem?_toArray, List.getElem?_cons_succ, List.getElem?_cons_zero] <;> rfl
      case hs3_1 => kernel_rfl
      case hf3_1 => kernel_rfl
      case hr3_1 => kernel_rfl
      case hQ3_1 => exact fun _ _ _ h => h
      case hy3_1 => exact Or.inl ⟨by rfl, fun w hSw => by have q0 := cell_keep x13 hSw; have q1 := cell_keep r0 hSw; have y3 := cell_keep yc3 hSw; have y4 := cell_keep yc4 hSw; have y5 := cell_keep yc5 hSw; have y6 := cell_keep yc6 hSw; have y7 := cell_keep yc7 hSw; have y8 := cell_keep yc8 hSw; go_simp <;> (try with_reducible rfl)⟩
      simp only [Act.put, List.setIfInBounds_toArray, List.set_cons_zero, List.set_cons_succ]
      refine' wpAnyH_take (i := 4) ?hi4_1 ?hs4_1 ?hf4_1 ?hr4_1 ?hQ4_1 ?hy4_1 (by assumption) ?rest4_1
      case hi4_1 => simp only [List.getElem?_toArray, List.getElem?_cons_succ, List.getElem?_cons_zero] <;> rfl
      case hs4_1 => kernel_rfl
      case hf4_1 => kernel_rfl
      case hr4_1 => kernel_rfl
      case hQ4_1 => exact fun _ _ _ h => h
      case hy4_1 => exact Or.inl ⟨by rfl, fun w hSw => by have q0 := cell_keep x13 hSw; have q1 := cell_keep r0 hSw; have y3 := cell_keep yc3 hSw; have y4 := cell_keep yc4 hSw; have y5 := cell_keep yc5 hSw; have y6 := cell_keep yc6 hSw; have y7 := cell_keep yc7 hSw; have y8 := cell_keep yc8 hSw; go_simp <;> (try with_reducible rfl)⟩
      simp only [Act.put, List.setIfInBounds_toArray, List.set_cons_zero, List.set_cons_succ]
      refine' wpAnyH_take (i := 5) ?hi5_1 ?hs5_1 ?hf5_1 ?hr5_1 ?hQ5_1 ?hy5_1 (by assumption) ?rest5_1
      case hi5_1 => simp only [List.getElem?_toArray, List.getElem?_cons_succ, List.getElem?_cons_zero] <;> rfl
      case hs5_1 => kernel_rfl
      case hf5_1 => kernel_rfl
      case hr5_1 => kernel_rfl
      case hQ5_1 => exact fun _ _ _ h => h
      case hy5_1 => exact Or.inl ⟨by rfl, fun w hSw => by have q0 := cell_keep x13 hSw; have q1 := cell_keep r0 hSw; have y3 := cell_keep yc3 hSw; have y4 := cell_keep yc4 hSw; have y5 := cell_keep yc5 hSw; have y6 := cell_keep yc6 hSw; have y7 := cell_keep yc7 hSw; have y8 := cell_keep yc8 hSw; go_simp <;> (try with_reducible rfl)⟩
      simp only [Act.put, List.setIfInBounds_toArray, List.set_cons_zero, List.set_cons_succ]
      refine' wpAnyH_take (i := 6) ?hi6_1 ?hs6_1 ?hf6_1 ?hr6_1 ?hQ6_1 ?hy6_1 (by assumption) ?rest6_1
      case hi6_1 => simp only [List.getElem?_toArray, List.getElem?_cons_succ, List.getElem?_cons_zero] <;> rfl
      case hs6_1 => kernel_rfl
      case hf6_1 => kernel_rfl
      case hr6_1 => kernel_rfl
      case hQ6_1 => exact fun _ _ _ h => h
      case hy6_1 => exact Or.inl ⟨by rfl, fun w hSw => by have q0 := cell_keep x13 hSw; have q1 := cell_keep r0 hSw; have y3 := cell_keep yc3 hSw; have y4 := cell_keep yc4 hSw; have y5 := cell_keep yc5 hSw; have y6 := cell_keep yc6 hSw; have y7 := cell_keep yc7 hSw; have y8 := cell_keep yc8 hSw; go_simp <;> (try with_reducible rfl)⟩
      simp only [Act.put, List.setIfInBounds_toArray, List.set_cons_zero, List.set_cons_succ]
      refine' wpAnyH_take (i := 7) ?hi7_1 ?hs7_1 ?hf7_1 ?hr7_1 ?hQ7_1 ?hy7_1 (by assumption) ?rest7_1
      case hi7_1 => simp only [List.getElem?_toArray, List.getElem?_cons_succ, List.getElem?_cons_zero] <;> rfl
      case hs7_1 => kernel_rfl
      case hf7_1 => kernel_rfl
      case hr7_1 => kernel_rfl
      case hQ7_1 => exact fun _ _ _ h => h
      case hy7_1 => exact Or.inl ⟨by rfl, fun w hSw => by have q0 := cell_keep x13 hSw; have q1 := cell_keep r0 hSw; have y3 := cell_keep yc3 hSw; have y4 := cell_keep yc4 hSw; have y5 := cell_keep yc5 hSw; have y6 := cell_keep yc6 hSw; have y7 := cell_keep yc7 hSw; have y8 := cell_keep yc8 hSw; go_simp <;> (try with_reducible rfl)⟩
      simp only [Act.put, List.setIfInBounds_toArray, List.set_cons_zero, List.set_cons_succ]
      refine' wpAnyH_take (i := 8) ?hi8_1 ?hs8_1 ?hf8_1 ?hr8_1 ?hQ8_1 ?hy8_1 (by assumption) ?rest8_1
      case hi8_1 => simp only [List.getElem?_toArray, List.getElem?_cons_succ, List.getElem?_cons_zero] <;> rfl
      case hs8_1 => kernel_rfl
      case hf8_1 => kernel_rfl
      case hr8_1 => kernel_rfl
      case hQ8_1 => exact fun _ _ _ h => h
      case hy8_1 => exact Or.inl ⟨by rfl, fun w hSw => by have q0 := cell_keep x13 hSw; have q1 := cell_keep r0 hSw; have y3 := cell_keep yc3 hSw; have y4 := cell_keep yc4 hSw; have y5 := cell_keep yc5 hSw; have y6 := cell_keep yc6 hSw; have y7 := cell_keep yc7 hSw; have y8 := cell_keep yc8 hSw; go_simp <;> (try with_reducible rfl)⟩
      simp only [Act.put, List.setIfInBounds_toArray, List.set_cons_zero, List.set_cons_succ]
      refine' wpAnyH_take (i := 9) ?hi9_1 ?hs9_1 ?hf9_1 ?hr9_1 ?hQ9_1 ?hy9_1 (by assumption) ?rest9_1
      case hi9_1 => simp only [List.getElem?_toArray, List.getElem?_cons_succ, List.getElem?_cons_zero] <;> rfl
      case hs9_1 => kernel_rfl
      case hf9_1 => kernel_rfl
      case hr9_1 => kernel_rfl
      case hQ9_1 => exact fun _ _ _ h => h
      case hy9_1 => exact Or.inl ⟨by rfl, fun w hSw => by have q0 := cell_keep x13 hSw; have q1 := cell_keep r0 hSw; have y3 := cell_keep yc3 hSw; have y4 := cell_keep yc4 hSw; have y5 := cell_keep yc5 hSw; have y6 := cell_keep yc6 hSw; have y7 := cell_keep yc7 hSw; have y8 := cell_keep yc8 hSw; go_simp <;> (try with_reducible rfl)⟩
      simp only [Act.put, List.setIfInBounds_toArray, List.set_cons_zero, List.set_cons_succ]
      refine' wpAnyH_take (i := 10) ?hi10_1 ?hs10_1 ?hf10_1 ?hr10_1 ?hQ10_1 ?hy10_1 (by assumption) ?rest10_1
      case hi10_1 => simp only [List.getElem?_toArray, List.getElem?_cons_succ, List.getElem?_cons_zero] <;> rfl
      case hs10_1 => kernel_rfl
      case hf10_1 => kernel_rfl
      case hr10_1 => kernel_rfl
      case hQ10_1 => exact fun _ _ _ h => h
      case hy10_1 => exact Or.inl ⟨by rfl, fun w hSw => by have q0 := cell_keep x13 hSw; have q1 := cell_keep r0 hSw; have y3 := cell_keep yc3 hSw; have y4 := cell_keep yc4 hSw; have y5 := cell_keep yc5 hSw; have y6 := cell_keep yc6 hSw; have y7 := cell_keep yc7 hSw; have y8 := cell_keep yc8 hSw; go_simp <;> (try with_reducible rfl)⟩
      simp only [Act.put, List.setIfInBounds_toArray, List.set_cons_zero, List.set_cons_succ]
      refine' wpAnyH_take (i := 11) ?hi11_1 ?hs11_1 ?hf11_1 ?hr11_1 ?hQ11_1 ?hy11_1 (by assumption) ?rest11_1
      case hi11_1 => simp only [List.getElem?_toArray, List.getElem?_cons_succ, List.getElem?_cons_zero] <;> rfl
      case hs11_1 => kernel_rfl
      case hf11_1 => kernel_rfl
      case hr11_1 => kernel_rfl
      case hQ11_1 => exact fun _ _ _ h => h
      case hy11_1 => exact Or.inl ⟨by rfl, fun w hSw => by have q0 := cell_keep x13 hSw; have q1 := cell_keep r0 hSw; have y3 := cell_keep yc3 hSw; have y4 := cell_keep yc4 hSw; have y5 := cell_keep yc5 hSw; have y6 := cell_keep yc6 hSw; have y7 := cell_keep yc7 hSw; have y8 := cell_keep yc8 hSw; go_simp <;> (try with_reducible rfl)⟩
      simp only [Act.put, List.setIfInBounds_toArray, List.set_cons_zero, List.set_cons_succ]
      refine' wpAnyH_take (i := 12) ?hi12_1 ?hs12_1 ?hf12_1 ?hr12_1 ?hQ12_1 ?hy12_1 (by assumption) ?rest12_1
      case hi12_1 => simp only [List.getElem?_toArray, List.getElem?_cons_succ, List.getElem?_cons_zero] <;> rfl
      case hs12_1 => kernel_rfl
      case hf12_1 => kernel_rfl
      case hr12_1 => kernel_rfl
      case hQ12_1 => exact fun _ _ _ h => h
      case hy12_1 => exact Or.inl ⟨by rfl, fun w hSw => by have q0 := cell_keep x13 hSw; have q1 := cell_keep r0 hSw; have y3 := cell_keep yc3 hSw; have y4 := cell_keep yc4 hSw; have y5 := cell_keep yc5 hSw; have y6 := cell_keep yc6 hSw; have y7 := cell_keep yc7 hSw; have y8 := cell_keep yc8 hSw; go_simp <;> (try with_reducible rfl)⟩
      simp only [Act.put, List.setIfInBounds_toArray, List.set_cons_zero, List.set_cons_succ]
      refine' wpAnyH_take (i := 13) ?hi13_1 ?hs13_1 ?hf13_1 ?hr13_1 ?hQ13_1 ?hy13_1 (by assumption) ?rest13_1
      case hi13_1 => simp only [List.getElem?_toArray, List.getElem?_cons_succ, List.getElem?_cons_zero] <;> rfl
      case hs13_1 => kernel_rfl
      case hf13_1 => kernel_rfl
      case hr13_1 => kernel_rfl
      case hQ13_1 => exact fun _ _ _ h => h
      case hy13_1 => exact Or.inl ⟨by rfl, fun w hSw => by have q0 := cell_keep x13 hSw; have q1 := cell_keep r0 hSw; have y3 := cell_keep yc3 hSw; have y4 := cell_keep yc4 hSw; have y5 := cell_keep yc5 hSw; have y6 := cell_keep yc6 hSw; have y7 := cell_keep yc7 hSw; have y8 := cell_keep yc8 hSw; go_simp <;> (try with_reducible rfl)⟩
      simp only [Act.put, List.setIfInBounds_toArray, List.set_cons_zero, List.set_cons_succ]
      refine' wpAnyH_take (i := 14) ?hi14_1 ?hs14_1 ?hf14_1 ?hr14_1 ?hQ14_1 ?hy14_1 (by assumption) ?rest14_1
      case hi14_1 => simp only [List.getElem?_toArray, List.getElem?_cons_succ, List.getElem?_cons_zero] <;> rfl
      case hs14_1 => kernel_rfl
      case hf14_1 => kernel_rfl
      case hr14_1 => kernel_rfl
      case hQ14_1 => exact fun _ _ _ h => h
      case hy14_1 => exact Or.inl ⟨by rfl, fun w hSw => by have q0 := cell_keep x13 hSw; have q1 := cell_keep r0 hSw; have y3 := cell_keep yc3 hSw; have y4 := cell_keep yc4 hSw; have y5 := cell_keep yc5 hSw; have y6 := cell_keep yc6 hSw; have y7 := cell_keep yc7 hSw; have y8 := cell_keep yc8 hSw; go_simp <;> (try with_reducible rfl)⟩
      simp only [Act.put, List.setIfInBounds_toArray, List.set_cons_zero, List.set_cons_succ]
      refine' wpAnyH_take (i := 15) ?hi15_1 ?hs15_1 ?hf15_1 ?hr15_1 ?hQ15_1 ?hy15_1 (by assumption) ?rest15_1
      case hi15_1 => simp only [List.getElem?_toArray, List.getElem?_cons_succ, List.getElem?_cons_zero] <;> rfl
      case hs15_1 => kernel_rfl
      case hf15_1 => kernel_rfl
      case hr15_1 => kernel_rfl
      case hQ15_1 => exact fun _ _ _ h => h
      case hy15_1 => exact Or.inl ⟨by rfl, fun w hSw => by have q0 := cell_keep x13 hSw; have q1 := cell_keep r0 hSw; have y3 := cell_keep yc3 hSw; have y4 := cell_keep yc4 hSw; have y5 := cell_keep yc5 hSw; have y6 := cell_keep yc6 hSw; have y7 := cell_keep yc7 hSw; have y8 := cell_keep yc8 hSw; go_simp <;> (try with_reducible rfl)⟩
      simp only [Act.put, List.setIfInBounds_toArray, List.set_cons_zero, List.set_cons_succ]
      refine' wpAnyH_take (i := 16) ?hi16_1 ?hs16_1 ?hf16_1 ?hr16_1 ?hQ16_1 ?hy16_1 (by assumption) ?rest16_1
      case hi16_1 => simp only [List.getElem?_toArray, List.getElem?_cons_succ, List.getElem?_cons_zero] <;> rfl
      case hs16_1 => kernel_rfl
      case hf16_1 => kernel_rfl
      case hr16_1 => kernel_rfl
      case hQ16_1 => exact fun _ _ _ h => h
      case hy16_1 => exact Or.inl ⟨by rfl, fun w hSw => by have q0 := cell_keep x13 hSw; have q1 := cell_keep r0 hSw; have y3 := cell_keep yc3 hSw; have y4 := cell_keep yc4 hSw; have y5 := cell_keep yc5 hSw; have y6 := cell_keep yc6 hSw; have y7 := cell_keep yc7 hSw; have y8 := cell_keep yc8 hSw; go_simp <;> (try with_reducible rfl)⟩
      simp only [Act.put, List.setIfInBounds_toArray, List.set_cons_zero, List.set_cons_succ]
      refine' wpAnyH_take (i := 17) ?hi17_1 ?hs17_1 ?hf17_1 ?hr17_1 ?hQ17_1 ?hy17_1 (by assumption) ?rest17_1
      case hi17_1 => simp only [List.getElem?_toArray, List.getElem?_cons_succ, List.getElem?_cons_zero] <;> rfl
      case hs17_1 => kernel_rfl
      case hf17_1 => kernel_rfl
      case hr17_1 => kernel_rfl
      case hQ17_1 => exact fun _ _ _ h => h
      case hy17_1 => exact Or.inl ⟨by rfl, fun w hSw => by have q0 := cell_keep x13 hSw; have q1 := cell_keep r0 hSw; have y3 := cell_keep yc3 hSw; have y4 := cell_keep yc4 hSw; have y5 := cell_keep yc5 hSw; have y6 := cell_keep yc6 hSw; have y7 := cell_keep yc7 hSw; have y8 := cell_keep yc8 hSw; go_simp <;> (try with_reducible rfl)⟩
      simp only [Act.put, List.setIfInBounds_toArray, List.set_cons_zero, List.set_cons_succ]
      refine' wpAnyH_take (i := 18) ?hi18_1 ?hs18_1 ?hf18_1 ?hr18_1 ?hQ18_1 ?hy18_1 (by assumption) ?rest18_1
      case hi18_1 => simp only [List.getElem?_toArray, List.getElem?_cons_succ, List.getElem?_cons_zero] <;> rfl
      case hs18_1 => kernel_rfl
      case hf18_1 => kernel_rfl
      case hr18_1 => kernel_rfl
      case hQ18_1 => exact fun _ _ _ h => h
      case hy18_1 => exact Or.inl ⟨by rfl, fun w hSw => by have q0 := cell_keep x13 hSw; have q1 := cell_keep r0 hSw; have y3 := cell_keep yc3 hSw; have y4 := cell_keep yc4 hSw; have y5 := cell_keep yc5 hSw; have y6 := cell_keep yc6 hSw; have y7 := cell_keep yc7 hSw; have y8 := cell_keep yc8 hSw; go_simp <;> (try with_reducible rfl)⟩
      simp only [Act.put, List.setIfInBounds_toArray, List.set_cons_zero, List.set_cons_succ]
      refine' wpAnyH_take (i := 19) ?hi19_1 ?hs19_1 ?hf19_1 ?hr19_1 ?hQ19_1 ?hy19_1 (by assumption) ?rest19_1
      case hi19_1 => simp only [List.getElem?_toArray, List.getElem?_cons_succ, List.getElem?_cons_zero] <;> rfl
      case hs19_1 => kernel_rfl
      case hf19_1 => kernel_rfl
      case hr19_1 => kernel_rfl
      case hQ19_1 => exact fun _ _ _ h => h
      case hy19_1 => exact Or.inl ⟨by rfl, fun w hSw => by have q0 := cell_keep x13 hSw; have q1 := cell_keep r0 hSw; have y3 := cell_keep yc3 hSw; have y4 := cell_keep yc4 hSw; have y5 := cell_keep yc5 hSw; have y6 := cell_keep yc6 hSw; have y7 := cell_keep yc7 hSw; have y8 := cell_keep yc8 hSw; go_simp <;> (try with_reducible rfl)⟩
      simp only [Act.put, List.setIfInBounds_toArray, List.set_cons_zero, List.set_cons_succ]
      refine wpAnyH_ready (rs := [20]) (by kernel_rfl) (by simp) ?_
      refine AllReadyH.cons rfl (fun K hK => ?_) AllReadyH.nil
      go_simp
      with_reducible refine Calls.mono (HU1.out _) ?_
      rintro e w5 ⟨rfl, k5⟩
      go_wp2_with fail
      refine hK.out _ _ (Keeps.trans hHeld k5) (fun hHeld => ?_)
      clear hK K
      try simp only [Act.put, List.setIfInBounds_toArray, List.set_cons_zero, List.set_cons_succ]
      refine' wpAnyH_take (i := 21) ?hi21_1 ?hs21_1 ?hf21_1 ?hr21_1 ?hQ21_1 ?hy21_1 (by assumption) ?rest21_1
      case hi21_1 => simp only [List.getElem?_toArray, List.getElem?_cons_succ, List.getElem?_cons_zero] <;> rfl
      case hs21_1 => kernel_rfl
      case hf21_1 => kernel_rfl
      case hr21_1 => kernel_rfl
      case hQ21_1 => exact fun _ _ _ h => h
      case hy21_1 => exact Or.inl ⟨by rfl, fun w hSw => by have q0 := cell_keep x13 hSw; have q1 := cell_keep r0 hSw; have y3 := cell_keep yc3 hSw; have y4 := cell_keep yc4 hSw; have y5 := cell_keep yc5 hSw; have y6 := cell_keep yc6 hSw; have y7 := cell_keep yc7 hSw; have y8 := cell_keep yc8 hSw; go_simp <;> (try with_reducible rfl)⟩
      simp only [Act.put, List.setIfInBounds_toArray, List.set_cons_zero, List.set_cons_succ]
      refine' wpAnyH_take (i := 22) ?hi22_1 ?hs22_1 ?hf22_1 ?hr22_1 ?hQ22_1 ?hy22_1 (by assumption) ?rest22_1
      case hi22_1 => simp only [List.getElem?_toArray, List.getElem?_cons_succ, List.getElem?_cons_zero] <;> rfl
      case hs22_1 => kernel_rfl
      case hf22_1 => kernel_rfl
      case hr22_1 => kernel_rfl
      case hQ22_1 => exact fun _ _ _ h => h
      case hy22_1 => exact Or.inl ⟨by rfl, fun w hSw => by have q0 := cell_keep x13 hSw; have q1 := cell_keep r0 hSw; have y3 := cell_keep yc3 hSw; have y4 := cell_keep yc4 hSw; have y5 := cell_keep yc5 hSw; have y6 := cell_keep yc6 hSw; have y7 := cell_keep yc7 hSw; have y8 := cell_keep yc8 hSw; go_simp <;> (try with_reducible rfl)⟩
      simp only [Act.put, List.setIfInBounds_toArray, List.set_cons_zero, List.set_cons_succ]
      refine' wpAnyH_take (i := 23) ?hi23_1 ?hs23_1 ?hf23_1 ?hr23_1 ?hQ23_1 ?hy23_1 (by assumption) ?rest23_1
      case hi23_1 => simp only [List.getElem?_toArray, List.getElem?_cons_succ, List.getElem?_cons_zero] <;> rfl
      case hs23_1 => kernel_rfl
      case hf23_1 => kernel_rfl
      case hr23_1 => kernel_rfl
      case hQ23_1 => exact fun _ _ _ h => h
      case hy23_1 => exact Or.inl ⟨by rfl, fun w hSw => by have q0 := cell_keep x13 hSw; have q1 := cell_keep r0 hSw; have y3 := cell_keep yc3 hSw; have y4 := cell_keep yc4 hSw; have y5 := cell_keep yc5 hSw; have y6 := cell_keep yc6 hSw; have y7 := cell_keep yc7 hSw; have y8 := cell_keep yc8 hSw; go_simp <;> (try with_reducible rfl)⟩
      simp only [Act.put, List.setIfInBounds_toArray, List.set_cons_zero, List.set_cons_succ]
      refine' wpAnyH_take (i := 24) ?hi24_1 ?hs24_1 ?hf24_1 ?hr24_1 ?hQ24_1 ?hy24_1 (by assumption) ?rest24_1
      case hi24_1 => simp only [List.getElem?_toArray, List.getElem?_cons_succ, List.getElem?_cons_zero] <;> rfl
      case hs24_1 => kernel_rfl
      case hf24_1 => kernel_rfl
      case hr24_1 => kernel_rfl
      case hQ24_1 => exact fun _ _ _ h => h
      case hy24_1 => exact Or.inl ⟨by rfl, fun w hSw => by have q0 := cell_keep x13 hSw; have q1 := cell_keep r0 hSw; have y3 := cell_keep yc3 hSw; have y4 := cell_keep yc4 hSw; have y5 := cell_keep yc5 hSw; have y6 := cell_keep yc6 hSw; have y7 := cell_keep yc7 hSw; have y8 := cell_keep yc8 hSw; go_simp <;> (try with_reducible rfl)⟩
      simp only [Act.put, List.setIfInBounds_toArray, List.set_cons_zero, List.set_cons_succ]
      refine' wpAnyH_take (i := 25) ?hi25_1 ?hs25_1 ?hf25_1 ?hr25_1 ?hQ25_1 ?hy25_1 (by assumption) ?rest25_1
      case hi25_1 => simp only [List.getElem?_toArray, List.getElem?_cons_succ, List.getElem?_cons_zero] <;> rfl
      case hs25_1 => kernel_rfl
      case hf25_1 => kernel_rfl
      case hr25_1 => kernel_rfl
      case hQ25_1 => exact fun _ _ _ h => h
      case hy25_1 => exact Or.inl ⟨by rfl, fun w hSw => by have q0 := cell_keep x13 hSw; have q1 := cell_keep r0 hSw; have y3 := cell_keep yc3 hSw; have y4 := cell_keep yc4 hSw; have y5 := cell_keep yc5 hSw; have y6 := cell_keep yc6 hSw; have y7 := cell_keep yc7 hSw; have y8 := cell_keep yc8 hSw; go_simp <;> (try with_reducible rfl)⟩
      simp only [Act.put, List.setIfInBounds_toArray, List.set_cons_zero, List.set_cons_succ]
      refine wpAnyH_ready (rs := [26]) (by kernel_rfl) (by simp) ?_
      refine AllReadyH.cons rfl (fun K hK => ?_) AllReadyH.nil
      go_simp
      with_reducible refine Calls.mono (HU2.out _) ?_
      rintro e w6 ⟨rfl, k6⟩
      go_wp2_with fail
      refine hK.out _ _ (Keeps.trans hHeld k6) (fun hHeld => ?_)
      clear hK K
      try simp only [Act.put, List.setIfInBounds_toArray, List.set_cons_zero, List.set_cons_succ]
      refine' wpAnyH_take (i := 27) ?hi27_1 ?hs27_1 ?hf27_1 ?hr27_1 ?hQ27_1 ?hy27_1 (by assumption) ?rest27_1
      case hi27_1 => simp only [List.getElem?_toArray, List.getElem?_cons_succ, List.getElem?_cons_zero] <;> rfl
      case hs27_1 => kernel_rfl
      case hf27_1 => kernel_rfl
      case hr27_1 => kernel_rfl
      case hQ27_1 => exact fun _ _ _ h => h
      case hy27_1 => exact Or.inl ⟨by rfl, fun w hSw => by have q0 := cell_keep x13 hSw; have q1 := cell_keep r0 hSw; have y3 := cell_keep yc3 hSw; have y4 := cell_keep yc4 hSw; have y5 := cell_keep yc5 hSw; have y6 := cell_keep yc6 hSw; have y7 := cell_keep yc7 hSw; have y8 := cell_keep yc8 hSw; go_simp <;> (try with_reducible rfl)⟩
      simp only [Act.put, List.setIfInBounds_toArray, List.set_cons_zero, List.set_cons_succ]
      refine' wpAnyH_take (i := 28) ?hi28_1 ?hs28_1 ?hf28_1 ?hr28_1 ?hQ28_1 ?hy28_1 (by assumption) ?rest28_1
      case hi28_1 => simp only [List.getElem?_toArray, List.getElem?_cons_succ, List.getElem?_cons_zero] <;> rfl
      case hs28_1 => kernel_rfl
      case hf28_1 => kernel_rfl
      case hr28_1 => kernel_rfl
      case hQ28_1 => exact fun _ _ _ h => h
      case hy28_1 => exact Or.inl ⟨by rfl, fun w hSw => by have q0 := cell_keep x13 hSw; have q1 := cell_keep r0 hSw; have y3 := cell_keep yc3 hSw; have y4 := cell_keep yc4 hSw; have y5 := cell_keep yc5 hSw; have y6 := cell_keep yc6 hSw; have y7 := cell_keep yc7 hSw; have y8 := cell_keep yc8 hSw; go_simp <;> (try with_reducible rfl)⟩
      simp only [Act.put, List.setIfInBounds_toArray, List.set_cons_zero, List.set_cons_succ]
      refine' wpAnyH_take (i := 29) ?hi29_1 ?hs29_1 ?hf29_1 ?hr29_1 ?hQ29_1 ?hy29_1 (by assumption) ?rest29_1
      case hi29_1 => simp only [List.getElem?_toArray, List.getElem?_cons_succ, List.getElem?_cons_zero] <;> rfl
      case hs29_1 => kernel_rfl
      case hf29_1 => kernel_rfl
      case hr29_1 => kernel_rfl
      case hQ29_1 => exact fun _ _ _ h => h
      case hy29_1 => exact Or.inl ⟨by rfl, fun w hSw => by have q0 := cell_keep x13 hSw; have q1 := cell_keep r0 hSw; have y3 := cell_keep yc3 hSw; have y4 := cell_keep yc4 hSw; have y5 := cell_keep yc5 hSw; have y6 := cell_keep yc6 hSw; have y7 := cell_keep yc7 hSw; have y8 := cell_keep yc8 hSw; go_simp <;> (try with_reducible rfl)⟩
      simp only [Act.put, List.setIfInBounds_toArray, List.set_cons_zero, List.set_cons_succ]
      refine wpAnyH_done (by kernel_rfl) ?_ _
      refine NoPanic.normal ?_
      go_wp2_with fail
      go_ret
      exact ⟨rfl, Keeps.trans K5 hHeld⟩

end Go.Proofs.Ytabfbgkablbeeaa
