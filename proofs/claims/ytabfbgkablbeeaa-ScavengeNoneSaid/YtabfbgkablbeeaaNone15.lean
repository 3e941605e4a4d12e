/- Layer 15: without roots, and without old objects, no young object goes on; done once more nothing is changed. -/
import Derived.Test.YtabfbgkablbeeaaG44
import Derived.Test.YtabfbgkablbeeaaNoneP
import Derived.BigQuiet
set_option linter.all false

namespace Go.Proofs.Ytabfbgkablbeeaa
open Go.RowKit

theorem sp_eq {a b : Sp} (h1 : a.f = b.f) (h2 : a.t = b.t) (h3 : a.e = b.e) : a = b := by cases a; cases b; cases h1; cases h2; cases h3; rfl
set_option maxRecDepth 100000 in
set_option maxHeartbeats 8000000 in
theorem none_walk (w : World) (Ac : Option Addr) (m cc : Nat) (C : Nat → Cl) (Th : Option Addr) (nt tc : Nat) (T : Nat → Tg) (Rf : Option Addr) (nr rc : Nat) (R : Nat → Int) (Ro : Option Addr) (nz zc : Nat) (Z : Nat → Int) (s0 s1 : Int) (h : WArg w Ac m cc C Th nt T Rf nr R Ro nz Z s0 s1) :
    Calls Try.prog 3 #[.agg #[.slice Ac m cc, .slice Th nt tc, .slice Rf nr rc, .slice Ro nz zc, .int .u8 s0, .int .u8 s1]] w fun e w' => e = .returned (.bool true) ∧ Keeps w w' := by
  have HMd := Lib.hid (show ∀ w', Keeps w w' → Calls Try.prog 6 #[.agg #[.slice Ac m cc, .slice Th nt tc, .slice Rf nr rc, .slice Ro nz zc, .int .u8 s0, .int .u8 s1]] w' (MadeOut w' Ac m cc C nt T nr R nz Z s0 s1) from fun w' k => made_any w' Ac m cc C Th nt tc T Rf nr rc R Ro nz zc Z s0 s1 (h.keep k))
  have hzl := zero_life
  have hzy := zero_young
  have HAw := Lib.hid awake_any
  have HA := Lib.hid h
  have hl2 := h.tl
  clear h
  go_enter Try.func3, Try.ntmps3
  go_upto_region 1 with fail
  refine named_code (fun w1 hW1 => ?_)
  have K1 : Keeps w w1 := by rw [hW1]; exact (Touch.refl _ w).alloc _
  have BW : BL w1 w.heap.size 27 [.slice Ac m cc, .slice Th nt tc, .slice Rf nr rc, .slice Ro nz zc, .int .u8 s0, .int .u8 s1] := by rw [hW1]; exact BL.new1 w _ _ [.slice Ac m cc, .slice Th nt tc, .slice Rf nr rc, .slice Ro nz zc, .int .u8 s0, .int .u8 s1] _ rfl rfl
  have z1 : w1.heap.size = w.heap.size + 1 := by rw [hW1]; simp
  clear hW1
  have c0 := BW.c 0 _ rfl
  have c1 := BW.c 1 _ rfl
  have c2 := BW.c 2 _ rfl
  have c3 := BW.c 3 _ rfl
  have c4 := BW.c 4 _ rfl
  have c5 := BW.c 5 _ rfl
  go_wp2_with fail
  go_loopw [15] (fun i wr => ∃ j : Nat, j ≤ nt ∧ i = .int .i64 j ∧ (∀ i, i < j → i < 60 → (T i).wh % 4 ≠ 3) ∧ w1 = wr) (fun i _ => nt - (intOf i).toNat)
  case atStart => exact ⟨0, by omega, rfl, fun i hi => by omega, rfl⟩
  case round =>
    obtain ⟨j, hj, rfl, hno, rfl⟩ := hrel
    have HNo := Lib.hid hno
    clear hno
    by_cases hlt : j < nt
    · by_cases h60 : j < 60
      · obtain ⟨hb, to_, hthe, hcells⟩ := (HA.out.ths.keep K1).at_ (k := j) hlt (by omega)
        have d2 : w1.cell? ⟨hb, to_ + j * 4 + 2, none⟩ = some (.int .u8 (T j).wh) := by
          have := hcells 2 (by omega)
          have e1 : (j * 4 + 2) / 4 = j := by omega
          have e2 : (j * 4 + 2) % 4 = 2 := by omega
          simpa [tgF, e1, e2] using this
        subst hthe
        have hwb := (HA.out.thok j hlt).2.2.1
        have HNx := Lib.hid (show (T j).wh % 4 ≠ 3 → ∀ i, i < j + 1 → i < 60 → (T i).wh % 4 ≠ 3 from fun hw i hi h6 => by
          by_cases e : i = j
          · rw [e]; exact hw
          · exact HNo.out i (by omega) h6)
        generalize (T j).wh = wh at *
        obtain ⟨hw0, hw1⟩ := hwb
        have h60I : (j : Int) < 60 := by omega
        clear hcells
        by_cases hw : wh % 4 = 3
        · go_wp2_with fail
          refine Calls.mono (HAw.out _) ?_
          rintro e w2 ⟨rfl, k2⟩
          go_wp2_with fail
          go_returns
          exact ⟨rfl, Keeps.trans K1 k2⟩
        · have hwq : (wh % 4 == 3) = false := by simpa using hw
          have HNy := Lib.hid (HNx.out hw)
          clear hw
          go_wp2_with fail
          go_roundw
          case rel => exact ⟨j + 1, by omega, by go_num, HNy.out, trivial⟩
          case measure => simp [intOf]; omega
      · have h60b : decide ((j : Int) < 60) = false := decide_eq_false (by omega)
        go_wp2_with fail
        go_roundw
        case rel => exact ⟨j + 1, by omega, by go_num, fun i hi h6 => HNo.out i (by have := hi; omega) h6, trivial⟩
        case measure => simp [intOf]; omega
    · obtain rfl : j = nt := by omega
      go_wp2_with fail
      refine Calls.mono (HMd.out _ K1) ?_
      clear HMd c0 c1 c2 c3 c4 c5
      rintro e w2 (⟨_, rfl, k2⟩ | ⟨xb, ba, bw, bt, A, cap, av, rov, tb, mb, vb, D, base, rfl, hM, hG, k2⟩)
      · have K2 := Keeps.trans K1 k2
        clear K1 k2
        go_wp2_with (first | (refine store_bl ?_ 42 (.tmp 4) (.tmp 35) ?_ (BL.new1 w2 42 _ [.pointer none, .pointer none, .pointer none, .pointer none, .int .i64 0, .int .i64 0, .int .i64 0, .int .i64 0, .int .i64 0, .int .i64 0, .int .i64 0, .int .i64 0, .int .i64 0, .int .i64 0, .int .i64 0, .int .i64 0, .int .i64 0, .slice none 0 0, .slice none 0 0, .pointer none, .slice none 0 0] w2.heap.size rfl rfl) ?_ [.pointer none, .pointer none, .pointer none, .pointer none, .int .i64 0, .int .i64 0, .int .i64 0, .int .i64 0, .int .i64 0, .int .i64 0, .int .i64 0, .int .i64 0, .int .i64 0, .int .i64 0, .int .i64 0, .int .i64 0, .int .i64 0, .slice none 0 0, .slice none 0 0, .pointer none, .slice none 0 0] ?_ sz_life rfl rfl ?_; rfl; rfl; rfl; rfl; intro w2x BX kBX; skip))
        refine Calls.mono (HAw.out _) ?_
        rintro e w3 ⟨rfl, k3⟩
        go_wp2_with fail
        refine Calls.mono (HAw.out _) ?_
        rintro e w4 ⟨rfl, k4⟩
        go_wp2_with fail
        go_returns
        exact ⟨rfl, Keeps.trans (Keeps.trans (Touch.new (Touch.alloc K2 _) kBX K2.size) k3) k4⟩
      · have K2 := Keeps.trans K1 k2
        have HOk := Lib.hid (wd15_ok (R := R) (s0 := s0) hG HA.out.thok)
        have HN0 := Lib.hid (wd15_no0 (m := m) (C := C) (nr := nr) (R := R) (s0 := s0) (fun i hi => HNo.out i hi (by have := hG.1; omega)))
        have hx : 0 ≤ s0 % 101 ∧ s0 % 101 ≤ 100 := by omega
        have ht : 0 ≤ s1 % 8 ∧ s1 % 8 ≤ 7 := by omega
        generalize s0 % 101 = x at *
        generalize s1 % 8 = thr at *
        have HG := Lib.hid hG
        generalize wd15 m C j T nr R s0 = s at *
        have hNY := none_y HOk.out.1 HOk.out.2.1 hx ht HN0.out.1
        obtain ⟨y, hy⟩ : ∃ y, y = s.sp (beg15 x) (end15 x) := ⟨_, rfl⟩
        rw [← hy] at hNY
        rw [← hy]
        have HY := Lib.hid hy
        have HNY := Lib.hid hNY
        obtain ⟨ra, rc', hrv⟩ := hM.roots.form
        obtain ⟨aa, ac, hav⟩ := hM.at_.form
        obtain ⟨an, han⟩ : ∃ an, an = s.at_.length := ⟨_, rfl⟩
        obtain ⟨rn, hrn⟩ : ∃ rn, rn = (rootsN s Z nz).length := ⟨_, rfl⟩
        rw [← han] at hav
        rw [← hrn] at hrv
        subst hav
        subst hrv
        clear han hrn
        have HM := Lib.hid hM
        have hlo := hM.pl.lo
        have hhi := hM.pl.hi
        have hz := hM.z
        have z2 := k2.size
        have hm0 : 0 < m := hG.2.2.2.1
        clear K1 k2 hM hy hNY hG
        unfold lifeV
        go_wp2_with (first | (refine store_bl ?_ 42 (.tmp 4) (.tmp 35) ?_ (BL.new1 w2 42 _ [.pointer none, .pointer none, .pointer none, .pointer none, .int .i64 0, .int .i64 0, .int .i64 0, .int .i64 0, .int .i64 0, .int .i64 0, .int .i64 0, .int .i64 0, .int .i64 0, .int .i64 0, .int .i64 0, .int .i64 0, .int .i64 0, .slice none 0 0, .slice none 0 0, .pointer none, .slice none 0 0] w2.heap.size rfl rfl) ?_ [.pointer (some ⟨ba, 0, none⟩), .pointer (some ⟨bt, 0, none⟩), .pointer (some ⟨ba, 0, none⟩), .pointer (some ⟨bt, 0, none⟩), .int .i64 (y 0).f, .int .i64 (y 0).t, .int .i64 (y 0).e, .int .i64 (y 1).f, .int .i64 (y 1).t, .int .i64 (y 1).e, .int .i64 (y 2).f, .int .i64 (y 2).t, .int .i64 (y 2).e, .int .i64 (y 3).f, .int .i64 (y 3).t, .int .i64 (y 3).e, .int .i64 thr, .slice aa an ac, .slice ra rn rc', .pointer (some ⟨tb, 0, none⟩), .slice Ac m cc] ?_ sz_life rfl rfl ?_; rfl; rfl; rfl; rfl; intro w2x BX kBX; skip))
        refine Calls.mono (HAw.out _) ?_
        rintro e w3 ⟨rfl, k3⟩
        have k23 : Keeps w2 w3 := Keeps.trans (Touch.new ((Touch.refl _ w2).alloc _) kBX (Nat.le_refl _)) k3
        have B3 := BX.keep k3
        have HM3 := Lib.hid (HM.out.keep k23)
        have K3 := Keeps.trans K2 k23
        have z3 := k23.size
        have hxl := B3.lt
        have hst := HM3.out.st.lows hm0
        have HRun := Lib.hid (HM3.out.run0 HOk.out.1 HOk.out.2.1 hx ht hm0 y HY.out)
        have e0 := B3.c 0 _ rfl
        have e1 := B3.c 1 _ rfl
        have e4 := B3.c 4 _ rfl
        have e5 := B3.c 5 _ rfl
        have e6 := B3.c 6 _ rfl
        have e7 := B3.c 7 _ rfl
        have e8 := B3.c 8 _ rfl
        have e9 := B3.c 9 _ rfl
        have e10 := B3.c 10 _ rfl
        have e11 := B3.c 11 _ rfl
        have e12 := B3.c 12 _ rfl
        have e13 := B3.c 13 _ rfl
        have e14 := B3.c 14 _ rfl
        have e15 := B3.c 15 _ rfl
        have e16 := B3.c 16 _ rfl
        have e19 := B3.c 19 _ rfl
        clear k3 K2 HM kBX BX
        go_wp2_with fail
        refine Calls.mono HRun.out ?_
        clear HRun
        rintro e w4 (⟨hF, _⟩ | ⟨_, s', out, ov, D', hR, rfl, hSt, hout, hCd, _, k4⟩)
        · exact absurd HNY.out.room (by omega)
        · rw [HN0.out.2] at hR
          obtain ⟨q1, q2⟩ := run_none hR HNY.out.ry.used
          subst q1
          subst q2
          obtain ⟨oa, oc, hov⟩ := hout.form
          have hov : ov = .slice oa 0 oc := hov
          subst hov
          have hbw : ¬ (w2.heap.size = bw ∨ w2.heap.size = vb) := by omega
          have B4 := B3.touch k4 hbw
          have K4 : Keeps w w4 := Touch.trans K3 k4 (fun x e hx => by omega)
          have z4 := k4.size
          obtain ⟨z, hz0⟩ : ∃ z : Nat → Sp, z = fun j => if j = 3 then emp (y 2) else nxL y ⟨frF s.f (s.g 1 ++ s.g 2), y 3, y 0⟩ j := ⟨_, rfl⟩
          rw [← hz0]
          obtain ⟨hNZ, hbd, hsp, hto⟩ := HNY.out.next (z := z) (by rw [hz0]; rfl) (by rw [hz0]; rfl) (by rw [hz0]; rfl) (by rw [hz0]; rfl)
          have hone := hNZ.ry.one
          have hU : ∀ i, i < 4 → (z i).t - (z i).f = 0 := fun i hi => by
            by_cases e : i = 3
            · subst e; have := hNZ.ry.used; omega
            · have := hbd i (by omega); omega
          have HU0 := Lib.hid (fun wx => used_any (z 0) wx (hone 0 (by omega)).1)
          have HU1 := Lib.hid (fun wx => used_any (z 1) wx (hone 1 (by omega)).1)
          have HU2 := Lib.hid (fun wx => used_any (z 2) wx (hone 2 (by omega)).1)
          have HU3 := Lib.hid (fun wx => used_any (z 3) wx (hone 3 (by omega)).1)
          rw [hU 0 (by omega)] at HU0
          rw [hU 1 (by omega)] at HU1
          rw [hU 2 (by omega)] at HU2
          rw [hU 3 (by omega)] at HU3
          have HT12 := Lib.hid (show (z 1).t = (z 1).f ∧ (z 2).t = (z 2).f from ⟨(hbd 1 (by omega)).2.1, (hbd 2 (by omega)).2.1⟩)
          have HH := Lib.hid (HW.none_ (f := frF s.f (s.g 1 ++ s.g 2)) HOk.out.1.hw.ok HOk.out.1.hw.n4 hbd hsp)
          have HNZ := Lib.hid hNZ
          have HTo := Lib.hid hto
          have HSt := Lib.hid hSt
          have HCd := Lib.hid hCd
          have hpw := HM3.out.pl.nw
          have hpv := HM3.out.pl.nv
          have HRun2 := Lib.hid (show ∀ wx, Keeps w4 wx → Calls Try.prog 7 #[.pointer (some ⟨ba, 0, none⟩), .pointer (some ⟨bt, 0, none⟩), .agg #[.int .i64 (z 0).f, .int .i64 (z 0).t, .int .i64 (z 0).e, .int .i64 (z 1).f, .int .i64 (z 1).t, .int .i64 (z 1).e, .int .i64 (z 2).f, .int .i64 (z 2).t, .int .i64 (z 2).e, .int .i64 (z 3).f, .int .i64 (z 3).t, .int .i64 (z 3).e, .int .i64 thr], .slice none 0 0, .pointer (some ⟨tb, 0, none⟩)] wx (RunOut 1000 m C (frF s.f (s.g 1 ++ s.g 2)) z (fun _ => []) thr [] ba bw bt A cap tb mb vb wx) from fun wx kk =>
            run_any HH.out (HSt.out.keep kk) hm0 HTo.out HNZ.out.ry (rl := []) (fun h => absurd h (by show ¬ (0 < 0); omega)) (by show 0 ≤ 1000; omega) (fun x hx => by cases hx) (fun b off e => by cases e) (HCd.out.keep kk) ⟨fun e => hpw.2.1 e.symm, fun e => hpw.2.2.1 e.symm, fun e => hpw.2.2.2 e.symm⟩ ⟨hpv.1, fun e => hpw.2.2.2 e.symm, hpv.2.1, fun b off e => (HM3.out.pl.A b off e).2.2.2.2⟩ HNZ.out.e0 (fun a ha => by cases ha))
          clear hR hz0 hNZ hbd hsp hto hone hU hSt hCd hout hpw hpv e0 e1 e19 e4 e5 e6 e7 e8 e9 e10 e11 e12 e13 e14 e15 e16 HOk
          unfold youngV
          go_wp2_with (first | (refine store_bl ?_ 38 (.tmp 7) (.tmp 55) ?_ (BL.new1 w4 38 _ [.int .i64 0, .int .i64 0, .int .i64 0, .int .i64 0, .int .i64 0, .int .i64 0, .int .i64 0, .int .i64 0, .int .i64 0, .int .i64 0, .int .i64 0, .int .i64 0, .int .i64 0] w4.heap.size rfl rfl) ?_ [.int .i64 (z 0).f, .int .i64 (z 0).t, .int .i64 (z 0).e, .int .i64 (z 1).f, .int .i64 (z 1).t, .int .i64 (z 1).e, .int .i64 (z 2).f, .int .i64 (z 2).t, .int .i64 (z 2).e, .int .i64 (z 3).f, .int .i64 (z 3).t, .int .i64 (z 3).e, .int .i64 thr] ?_ sz_young_ rfl rfl ?_; rfl; rfl; rfl; rfl; intro w5 BY kBY; skip))
          have k45 : Keeps w4 w5 := Touch.new ((Touch.refl _ w4).alloc _) kBY (Nat.le_refl _)
          have BY5 := BY
          have BX5 := B4.keep k45
          have K5 := Keeps.trans K4 k45
          have yc0 := BY5.c 0 _ rfl
          have yc1 := BY5.c 1 _ rfl
          have yc2 := BY5.c 2 _ rfl
          have yc3 := BY5.c 3 _ rfl
          have yc4 := BY5.c 4 _ rfl
          have yc5 := BY5.c 5 _ rfl
          have yc6 := BY5.c 6 _ rfl
          have yc7 := BY5.c 7 _ rfl
          have yc8 := BY5.c 8 _ rfl
          have yc9 := BY5.c 9 _ rfl
          have yc10 := BY5.c 10 _ rfl
          have yc11 := BY5.c 11 _ rfl
          have yc12 := BY5.c 12 _ rfl
          clear kBY BY B4 K4
          unfold agg at *
          refine wp_region_noPanic ?_
          refine wp_region_held_drew (S := (fun w' => Keeps w5 w')) (by kernel_rfl) (Touch.refl _ w5).drew (fun hHeld => ?_)
          refine' wpAnyH_take (i := 0) ?hi0_1 ?hs0_1 ?hf0_1 ?hr0_1 ?hQ0_1 ?hy0_1 (by assumption) ?rest0_1
          case hi0_1 => simp only [List.getElem?_toArray, List.getElem?_cons_zero] <;> rfl
          case hs0_1 => kernel_rfl
          case hf0_1 => kernel_rfl
          case hr0_1 => kernel_rfl
          case hQ0_1 => exact fun _ _ _ h => h
          case hy0_1 => exact Or.inl ⟨by rfl, fun w hSw => by have y0 := cell_keep yc0 hSw; have y1 := cell_keep yc1 hSw; have y2 := cell_keep yc2 hSw; have y3 := cell_keep yc3 hSw; have y4 := cell_keep yc4 hSw; have y5 := cell_keep yc5 hSw; have y6 := cell_keep yc6 hSw; have y7 := cell_keep yc7 hSw; have y8 := cell_keep yc8 hSw; have y9 := cell_keep yc9 hSw; have y10 := cell_keep yc10 hSw; have y11 := cell_keep yc11 hSw; go_simp <;> (try with_reducible rfl)⟩
          simp only [Act.put, List.setIfInBounds_toArray, List.set_cons_zero, List.set_cons_succ]
          refine' wpAnyH_take (i := 1) ?hi1_1 ?hs1_1 ?hf1_1 ?hr1_1 ?hQ1_1 ?hy1_1 (by assumption) ?rest1_1
          case hi1_1 => simp only [List.getElem?_toArray, List.getElem?_cons_succ, List.getElem?_cons_zero] <;> rfl
          case hs1_1 => kernel_rfl
          case hf1_1 => kernel_rfl
          case hr1_1 => kernel_rfl
          case hQ1_1 => exact fun _ _ _ h => h
          case hy1_1 => exact Or.inl ⟨by rfl, fun w hSw => by have y0 := cell_keep yc0 hSw; have y1 := cell_keep yc1 hSw; have y2 := cell_keep yc2 hSw; have y3 := cell_keep yc3 hSw; have y4 := cell_keep yc4 hSw; have y5 := cell_keep yc5 hSw; have y6 := cell_keep yc6 hSw; have y7 := cell_keep yc7 hSw; have y8 := cell_keep yc8 hSw; have y9 := cell_keep yc9 hSw; have y10 := cell_keep yc10 hSw; have y11 := cell_keep yc11 hSw; go_simp <;> (try with_reducible rfl)⟩
          simp only [Act.put, List.setIfInBounds_toArray, List.set_cons_zero, List.set_cons_succ]
          refine' wpAnyH_take (i := 2) ?hi2_1 ?hs2_1 ?hf2_1 ?hr2_1 ?hQ2_1 ?hy2_1 (by assumption) ?rest2_1
          case hi2_1 => simp only [List.getElem?_toArray, List.getElem?_cons_succ, List.getElem?_cons_zero] <;> rfl
          case hs2_1 => kernel_rfl
          case hf2_1 => kernel_rfl
          case hr2_1 => kernel_rfl
          case hQ2_1 => exact fun _ _ _ h => h
          case hy2_1 => exact Or.inl ⟨by rfl, fun w hSw => by have y0 := cell_keep yc0 hSw; have y1 := cell_keep yc1 hSw; have y2 := cell_keep yc2 hSw; have y3 := cell_keep yc3 hSw; have y4 := cell_keep yc4 hSw; have y5 := cell_keep yc5 hSw; have y6 := cell_keep yc6 hSw; have y7 := cell_keep yc7 hSw; have y8 := cell_keep yc8 hSw; have y9 := cell_keep yc9 hSw; have y10 := cell_keep yc10 hSw; have y11 := cell_keep yc11 hSw; go_simp <;> (try with_reducible rfl)⟩
          simp only [Act.put, List.setIfInBounds_toArray, List.set_cons_zero, List.set_cons_succ]
          refine' wpAnyH_take (i := 3) ?hi3_1 ?hs3_1 ?hf3_1 ?hr3_1 ?hQ3_1 ?hy3_1 (by assumption) ?rest3_1
          case hi3_1 => simp only [List.getElem?_toArray, List.getElem?_cons_succ, List.getElem?_cons_zero] <;> rfl
          case hs3_1 => kernel_rfl
          case hf3_1 => kernel_rfl
          case hr3_1 => kernel_rfl
          case hQ3_1 => exact fun _ _ _ h => h
          case hy3_1 => exact Or.inl ⟨by rfl, fun w hSw => by have y0 := cell_keep yc0 hSw; have y1 := cell_keep yc1 hSw; have y2 := cell_keep yc2 hSw; have y3 := cell_keep yc3 hSw; have y4 := cell_keep yc4 hSw; have y5 := cell_keep yc5 hSw; have y6 := cell_keep yc6 hSw; have y7 := cell_keep yc7 hSw; have y8 := cell_keep yc8 hSw; have y9 := cell_keep yc9 hSw; have y10 := cell_keep yc10 hSw; have y11 := cell_keep yc11 hSw; go_simp <;> (try with_reducible rfl)⟩
          simp only [Act.put, List.setIfInBounds_toArray, List.set_cons_zero, List.set_cons_succ]
          refine' wpAnyH_take (i := 4) ?hi4_1 ?hs4_1 ?hf4_1 ?hr4_1 ?hQ4_1 ?hy4_1 (by assumption) ?rest4_1
          case hi4_1 => simp only [List.getElem?_toArray, List.getElem?_cons_succ, List.getElem?_cons_zero] <;> rfl
          case hs4_1 => kernel_rfl
          case hf4_1 => kernel_rfl
          case hr4_1 => kernel_rfl
          case hQ4_1 => exact fun _ _ _ h => h
          case hy4_1 => exact Or.inl ⟨by rfl, fun w hSw => by have y0 := cell_keep yc0 hSw; have y1 := cell_keep yc1 hSw; have y2 := cell_keep yc2 hSw; have y3 := cell_keep yc3 hSw; have y4 := cell_keep yc4 hSw; have y5 := cell_keep yc5 hSw; have y6 := cell_keep yc6 hSw; have y7 := cell_keep yc7 hSw; have y8 := cell_keep yc8 hSw; have y9 := cell_keep yc9 hSw; have y10 := cell_keep yc10 hSw; have y11 := cell_keep yc11 hSw; go_simp <;> (try with_reducible rfl)⟩
          simp only [Act.put, List.setIfInBounds_toArray, List.set_cons_zero, List.set_cons_succ]
          refine' wpAnyH_take (i := 5) ?hi5_1 ?hs5_1 ?hf5_1 ?hr5_1 ?hQ5_1 ?hy5_1 (by assumption) ?rest5_1
          case hi5_1 => simp only [List.getElem?_toArray, List.getElem?_cons_succ, List.getElem?_cons_zero] <;> rfl
          case hs5_1 => kernel_rfl
          case hf5_1 => kernel_rfl
          case hr5_1 => kernel_rfl
          case hQ5_1 => exact fun _ _ _ h => h
          case hy5_1 => exact Or.inl ⟨by rfl, fun w hSw => by have y0 := cell_keep yc0 hSw; have y1 := cell_keep yc1 hSw; have y2 := cell_keep yc2 hSw; have y3 := cell_keep yc3 hSw; have y4 := cell_keep yc4 hSw; have y5 := cell_keep yc5 hSw; have y6 := cell_keep yc6 hSw; have y7 := cell_keep yc7 hSw; have y8 := cell_keep yc8 hSw; have y9 := cell_keep yc9 hSw; have y10 := cell_keep yc10 hSw; have y11 := cell_keep yc11 hSw; go_simp <;> (try with_reducible rfl)⟩
          simp only [Act.put, List.setIfInBounds_toArray, List.set_cons_zero, List.set_cons_succ]
          refine' wpAnyH_take (i := 6) ?hi6_1 ?hs6_1 ?hf6_1 ?hr6_1 ?hQ6_1 ?hy6_1 (by assumption) ?rest6_1
          case hi6_1 => simp only [List.getElem?_toArray, List.getElem?_cons_succ, List.getElem?_cons_zero] <;> rfl
          case hs6_1 => kernel_rfl
          case hf6_1 => kernel_rfl
          case hr6_1 => kernel_rfl
          case hQ6_1 => exact fun _ _ _ h => h
          case hy6_1 => exact Or.inl ⟨by rfl, fun w hSw => by have y0 := cell_keep yc0 hSw; have y1 := cell_keep yc1 hSw; have y2 := cell_keep yc2 hSw; have y3 := cell_keep yc3 hSw; have y4 := cell_keep yc4 hSw; have y5 := cell_keep yc5 hSw; have y6 := cell_keep yc6 hSw; have y7 := cell_keep yc7 hSw; have y8 := cell_keep yc8 hSw; have y9 := cell_keep yc9 hSw; have y10 := cell_keep yc10 hSw; have y11 := cell_keep yc11 hSw; go_simp <;> (try with_reducible rfl)⟩
          simp only [Act.put, List.setIfInBounds_toArray, List.set_cons_zero, List.set_cons_succ]
          refine' wpAnyH_take (i := 7) ?hi7_1 ?hs7_1 ?hf7_1 ?hr7_1 ?hQ7_1 ?hy7_1 (by assumption) ?rest7_1
          case hi7_1 => simp only [List.getElem?_toArray, List.getElem?_cons_succ, List.getElem?_cons_zero] <;> rfl
          case hs7_1 => kernel_rfl
          case hf7_1 => kernel_rfl
          case hr7_1 => kernel_rfl
          case hQ7_1 => exact fun _ _ _ h => h
          case hy7_1 => exact Or.inl ⟨by rfl, fun w hSw => by have y0 := cell_keep yc0 hSw; have y1 := cell_keep yc1 hSw; have y2 := cell_keep yc2 hSw; have y3 := cell_keep yc3 hSw; have y4 := cell_keep yc4 hSw; have y5 := cell_keep yc5 hSw; have y6 := cell_keep yc6 hSw; have y7 := cell_keep yc7 hSw; have y8 := cell_keep yc8 hSw; have y9 := cell_keep yc9 hSw; have y10 := cell_keep yc10 hSw; have y11 := cell_keep yc11 hSw; go_simp <;> (try with_reducible rfl)⟩
          simp only [Act.put, List.setIfInBounds_toArray, List.set_cons_zero, List.set_cons_succ]
          refine' wpAnyH_take (i := 8) ?hi8_1 ?hs8_1 ?hf8_1 ?hr8_1 ?hQ8_1 ?hy8_1 (by assumption) ?rest8_1
          case hi8_1 => simp only [List.getElem?_toArray, List.getElem?_cons_succ, List.getElem?_cons_zero] <;> rfl
          case hs8_1 => kernel_rfl
          case hf8_1 => kernel_rfl
          case hr8_1 => kernel_rfl
          case hQ8_1 => exact fun _ _ _ h => h
          case hy8_1 => exact Or.inl ⟨by rfl, fun w hSw => by have y0 := cell_keep yc0 hSw; have y1 := cell_keep yc1 hSw; have y2 := cell_keep yc2 hSw; have y3 := cell_keep yc3 hSw; have y4 := cell_keep yc4 hSw; have y5 := cell_keep yc5 hSw; have y6 := cell_keep yc6 hSw; have y7 := cell_keep yc7 hSw; have y8 := cell_keep yc8 hSw; have y9 := cell_keep yc9 hSw; have y10 := cell_keep yc10 hSw; have y11 := cell_keep yc11 hSw; go_simp <;> (try with_reducible rfl)⟩
          simp only [Act.put, List.setIfInBounds_toArray, List.set_cons_zero, List.set_cons_succ]
          refine' wpAnyH_take (i := 9) ?hi9_1 ?hs9_1 ?hf9_1 ?hr9_1 ?hQ9_1 ?hy9_1 (by assumption) ?rest9_1
          case hi9_1 => simp only [List.getElem?_toArray, List.getElem?_cons_succ, List.getElem?_cons_zero] <;> rfl
          case hs9_1 => kernel_rfl
          case hf9_1 => kernel_rfl
          case hr9_1 => kernel_rfl
          case hQ9_1 => exact fun _ _ _ h => h
          case hy9_1 => exact Or.inl ⟨by rfl, fun w hSw => by have y0 := cell_keep yc0 hSw; have y1 := cell_keep yc1 hSw; have y2 := cell_keep yc2 hSw; have y3 := cell_keep yc3 hSw; have y4 := cell_keep yc4 hSw; have y5 := cell_keep yc5 hSw; have y6 := cell_keep yc6 hSw; have y7 := cell_keep yc7 hSw; have y8 := cell_keep yc8 hSw; have y9 := cell_keep yc9 hSw; have y10 := cell_keep yc10 hSw; have y11 := cell_keep yc11 hSw; go_simp <;> (try with_reducible rfl)⟩
          simp only [Act.put, List.setIfInBounds_toArray, List.set_cons_zero, List.set_cons_succ]
          refine' wpAnyH_take (i := 11) ?hi11_1 ?hs11_1 ?hf11_1 ?hr11_1 ?hQ11_1 ?hy11_1 (by assumption) ?rest11_1
          case hi11_1 => simp only [List.getElem?_toArray, List.getElem?_cons_succ, List.getElem?_cons_zero] <;> rfl
          case hs11_1 => kernel_rfl
          case hf11_1 => kernel_rfl
          case hr11_1 => kernel_rfl
          case hQ11_1 => exact fun _ _ _ h => h
          case hy11_1 => exact Or.inl ⟨by rfl, fun w hSw => by have y0 := cell_keep yc0 hSw; have y1 := cell_keep yc1 hSw; have y2 := cell_keep yc2 hSw; have y3 := cell_keep yc3 hSw; have y4 := cell_keep yc4 hSw; have y5 := cell_keep yc5 hSw; have y6 := cell_keep yc6 hSw; have y7 := cell_keep yc7 hSw; have y8 := cell_keep yc8 hSw; have y9 := cell_keep yc9 hSw; have y10 := cell_keep yc10 hSw; have y11 := cell_keep yc11 hSw; go_simp <;> (try with_reducible rfl)⟩
          simp only [Act.put, List.setIfInBounds_toArray, List.set_cons_zero, List.set_cons_succ]
          refine' wpAnyH_take (i := 12) ?hi12_1 ?hs12_1 ?hf12_1 ?hr12_1 ?hQ12_1 ?hy12_1 (by assumption) ?rest12_1
          case hi12_1 => simp only [List.getElem?_toArray, List.getElem?_cons_succ, List.getElem?_cons_zero] <;> rfl
          case hs12_1 => kernel_rfl
          case hf12_1 => kernel_rfl
          case hr12_1 => kernel_rfl
          case hQ12_1 => exact fun _ _ _ h => h
          case hy12_1 => exact Or.inl ⟨by rfl, fun w hSw => by have y0 := cell_keep yc0 hSw; have y1 := cell_keep yc1 hSw; have y2 := cell_keep yc2 hSw; have y3 := cell_keep yc3 hSw; have y4 := cell_keep yc4 hSw; have y5 := cell_keep yc5 hSw; have y6 := cell_keep yc6 hSw; have y7 := cell_keep yc7 hSw; have y8 := cell_keep yc8 hSw; have y9 := cell_keep yc9 hSw; have y10 := cell_keep yc10 hSw; have y11 := cell_keep yc11 hSw; go_simp <;> (try with_reducible rfl)⟩
          simp only [Act.put, List.setIfInBounds_toArray, List.set_cons_zero, List.set_cons_succ]
          refine' wpAnyH_take (i := 15) ?hi15_1 ?hs15_1 ?hf15_1 ?hr15_1 ?hQ15_1 ?hy15_1 (by assumption) ?rest15_1
          case hi15_1 => simp only [List.getElem?_toArray, List.getElem?_cons_succ, List.getElem?_cons_zero] <;> rfl
          case hs15_1 => kernel_rfl
          case hf15_1 => kernel_rfl
          case hr15_1 => kernel_rfl
          case hQ15_1 => exact fun _ _ _ h => h
          case hy15_1 => exact Or.inl ⟨by rfl, fun w hSw => by have y0 := cell_keep yc0 hSw; have y1 := cell_keep yc1 hSw; have y2 := cell_keep yc2 hSw; have y3 := cell_keep yc3 hSw; have y4 := cell_keep yc4 hSw; have y5 := cell_keep yc5 hSw; have y6 := cell_keep yc6 hSw; have y7 := cell_keep yc7 hSw; have y8 := cell_keep yc8 hSw; have y9 := cell_keep yc9 hSw; have y10 := cell_keep yc10 hSw; have y11 := cell_keep yc11 hSw; go_simp <;> (try with_reducible rfl)⟩
          simp only [Act.put, List.setIfInBounds_toArray, List.set_cons_zero, List.set_cons_succ]
          refine' wpAnyH_take (i := 16) ?hi16_1 ?hs16_1 ?hf16_1 ?hr16_1 ?hQ16_1 ?hy16_1 (by assumption) ?rest16_1
          case hi16_1 => simp only [List.getElem?_toArray, List.getElem?_cons_succ, List.getElem?_cons_zero] <;> rfl
          case hs16_1 => kernel_rfl
          case hf16_1 => kernel_rfl
          case hr16_1 => kernel_rfl
          case hQ16_1 => exact fun _ _ _ h => h
          case hy16_1 => exact Or.inl ⟨by rfl, fun w hSw => by have y0 := cell_keep yc0 hSw; have y1 := cell_keep yc1 hSw; have y2 := cell_keep yc2 hSw; have y3 := cell_keep yc3 hSw; have y4 := cell_keep yc4 hSw; have y5 := cell_keep yc5 hSw; have y6 := cell_keep yc6 hSw; have y7 := cell_keep yc7 hSw; have y8 := cell_keep yc8 hSw; have y9 := cell_keep yc9 hSw; have y10 := cell_keep yc10 hSw; have y11 := cell_keep yc11 hSw; go_simp <;> (try with_reducible rfl)⟩
          simp only [Act.put, List.setIfInBounds_toArray, List.set_cons_zero, List.set_cons_succ]
          refine' wpAnyH_take (i := 19) ?hi19_1 ?hs19_1 ?hf19_1 ?hr19_1 ?hQ19_1 ?hy19_1 (by assumption) ?rest19_1
          case hi19_1 => simp only [List.getElem?_toArray, List.getElem?_cons_succ, List.getElem?_cons_zero] <;> rfl
          case hs19_1 => kernel_rfl
          case hf19_1 => kernel_rfl
          case hr19_1 => kernel_rfl
          case hQ19_1 => exact fun _ _ _ h => h
          case hy19_1 => exact Or.inl ⟨by rfl, fun w hSw => by have y0 := cell_keep yc0 hSw; have y1 := cell_keep yc1 hSw; have y2 := cell_keep yc2 hSw; have y3 := cell_keep yc3 hSw; have y4 := cell_keep yc4 hSw; have y5 := cell_keep yc5 hSw; have y6 := cell_keep yc6 hSw; have y7 := cell_keep yc7 hSw; have y8 := cell_keep yc8 hSw; have y9 := cell_keep yc9 hSw; have y10 := cell_keep yc10 hSw; have y11 := cell_keep yc11 hSw; go_simp <;> (try with_reducible rfl)⟩
          simp only [Act.put, List.setIfInBounds_toArray, List.set_cons_zero, List.set_cons_succ]
          refine' wpAnyH_take (i := 20) ?hi20_1 ?hs20_1 ?hf20_1 ?hr20_1 ?hQ20_1 ?hy20_1 (by assumption) ?rest20_1
          case hi20_1 => simp only [List.getElem?_toArray, List.getElem?_cons_succ, List.getElem?_cons_zero] <;> rfl
          case hs20_1 => kernel_rfl
          case hf20_1 => kernel_rfl
          case hr20_1 => kernel_rfl
          case hQ20_1 => exact fun _ _ _ h => h
          case hy20_1 => exact Or.inl ⟨by rfl, fun w hSw => by have y0 := cell_keep yc0 hSw; have y1 := cell_keep yc1 hSw; have y2 := cell_keep yc2 hSw; have y3 := cell_keep yc3 hSw; have y4 := cell_keep yc4 hSw; have y5 := cell_keep yc5 hSw; have y6 := cell_keep yc6 hSw; have y7 := cell_keep yc7 hSw; have y8 := cell_keep yc8 hSw; have y9 := cell_keep yc9 hSw; have y10 := cell_keep yc10 hSw; have y11 := cell_keep yc11 hSw; go_simp <;> (try with_reducible rfl)⟩
          simp only [Act.put, List.setIfInBounds_toArray, List.set_cons_zero, List.set_cons_succ]
          refine wpAnyH_ready (rs := [10]) (by kernel_rfl) (by simp) ?_
          refine AllReadyH.cons rfl (fun K hK => ?_) AllReadyH.nil
          go_simp
          with_reducible refine Calls.mono (HU1.out _) ?_
          rintro e w6 ⟨rfl, k6⟩
          go_wp2_with fail
          refine hK.out _ _ (Keeps.trans hHeld k6) (fun hHeld => ?_)
          clear hK K
          try simp only [Act.put, List.setIfInBounds_toArray, List.set_cons_zero, List.set_cons_succ]
          refine wpAnyH_ready (rs := [13]) (by kernel_rfl) (by simp) ?_
          refine AllReadyH.cons rfl (fun K hK => ?_) AllReadyH.nil
          go_simp
          with_reducible refine Calls.mono (HU2.out _) ?_
          rintro e w7 ⟨rfl, k7⟩
          go_wp2_with fail
          refine hK.out _ _ (Keeps.trans hHeld k7) (fun hHeld => ?_)
          clear hK K
          try simp only [Act.put, List.setIfInBounds_toArray, List.set_cons_zero, List.set_cons_succ]
          refine' wpAnyH_take (i := 14) ?hi14_1 ?hs14_1 ?hf14_1 ?hr14_1 ?hQ14_1 ?hy14_1 (by assumption) ?rest14_1
          case hi14_1 => simp only [List.getElem?_toArray, List.getElem?_cons_succ, List.getElem?_cons_zero] <;> rfl
          case hs14_1 => kernel_rfl
          case hf14_1 => kernel_rfl
          case hr14_1 => kernel_rfl
          case hQ14_1 => exact fun _ _ _ h => h
          case hy14_1 => exact Or.inl ⟨by rfl, fun w hSw => by have y0 := cell_keep yc0 hSw; have y1 := cell_keep yc1 hSw; have y2 := cell_keep yc2 hSw; have y3 := cell_keep yc3 hSw; have y4 := cell_keep yc4 hSw; have y5 := cell_keep yc5 hSw; have y6 := cell_keep yc6 hSw; have y7 := cell_keep yc7 hSw; have y8 := cell_keep yc8 hSw; have y9 := cell_keep yc9 hSw; have y10 := cell_keep yc10 hSw; have y11 := cell_keep yc11 hSw; go_simp <;> (try with_reducible rfl)⟩
          simp only [Act.put, List.setIfInBounds_toArray, List.set_cons_zero, List.set_cons_succ]
          refine wpAnyH_ready (rs := [17]) (by kernel_rfl) (by simp) ?_
          refine AllReadyH.cons rfl (fun K hK => ?_) AllReadyH.nil
          go_simp
          with_reducible refine Calls.mono (HU3.out _) ?_
          rintro e w8 ⟨rfl, k8⟩
          go_wp2_with fail
          refine hK.out _ _ (Keeps.trans hHeld k8) (fun hHeld => ?_)
          clear hK K
          try simp only [Act.put, List.setIfInBounds_toArray, List.set_cons_zero, List.set_cons_succ]
          refine' wpAnyH_take (i := 18) ?hi18_1 ?hs18_1 ?hf18_1 ?hr18_1 ?hQ18_1 ?hy18_1 (by assumption) ?rest18_1
          case hi18_1 => simp only [List.getElem?_toArray, List.getElem?_cons_succ, List.getElem?_cons_zero] <;> rfl
          case hs18_1 => kernel_rfl
          case hf18_1 => kernel_rfl
          case hr18_1 => kernel_rfl
          case hQ18_1 => exact fun _ _ _ h => h
          case hy18_1 => exact Or.inl ⟨by rfl, fun w hSw => by have y0 := cell_keep yc0 hSw; have y1 := cell_keep yc1 hSw; have y2 := cell_keep yc2 hSw; have y3 := cell_keep yc3 hSw; have y4 := cell_keep yc4 hSw; have y5 := cell_keep yc5 hSw; have y6 := cell_keep yc6 hSw; have y7 := cell_keep yc7 hSw; have y8 := cell_keep yc8 hSw; have y9 := cell_keep yc9 hSw; have y10 := cell_keep yc10 hSw; have y11 := cell_keep yc11 hSw; go_simp <;> (try with_reducible rfl)⟩
          simp only [Act.put, List.setIfInBounds_toArray, List.set_cons_zero, List.set_cons_succ]
          refine wpAnyH_ready (rs := [21]) (by kernel_rfl) (by simp) ?_
          refine AllReadyH.cons rfl (fun K hK => ?_) AllReadyH.nil
          go_simp
          with_reducible refine Calls.mono (HU0.out _) ?_
          rintro e w9 ⟨rfl, k9⟩
          go_wp2_with fail
          refine hK.out _ _ (Keeps.trans hHeld k9) (fun hHeld => ?_)
          clear hK K
          try simp only [Act.put, List.setIfInBounds_toArray, List.set_cons_zero, List.set_cons_succ]
          refine' wpAnyH_take (i := 22) ?hi22_1 ?hs22_1 ?hf22_1 ?hr22_1 ?hQ22_1 ?hy22_1 (by assumption) ?rest22_1
          case hi22_1 => simp only [List.getElem?_toArray, List.getElem?_cons_succ, List.getElem?_cons_zero] <;> rfl
          case hs22_1 => kernel_rfl
          case hf22_1 => kernel_rfl
          case hr22_1 => kernel_rfl
          case hQ22_1 => exact fun _ _ _ h => h
          case hy22_1 => exact Or.inl ⟨by rfl, fun w hSw => by have y0 := cell_keep yc0 hSw; have y1 := cell_keep yc1 hSw; have y2 := cell_keep yc2 hSw; have y3 := cell_keep yc3 hSw; have y4 := cell_keep yc4 hSw; have y5 := cell_keep yc5 hSw; have y6 := cell_keep yc6 hSw; have y7 := cell_keep yc7 hSw; have y8 := cell_keep yc8 hSw; have y9 := cell_keep yc9 hSw; have y10 := cell_keep yc10 hSw; have y11 := cell_keep yc11 hSw; go_simp <;> (try with_reducible rfl)⟩
          simp only [Act.put, List.setIfInBounds_toArray, List.set_cons_zero, List.set_cons_succ]
          refine' wpAnyH_take (i := 23) ?hi23_1 ?hs23_1 ?hf23_1 ?hr23_1 ?hQ23_1 ?hy23_1 (by assumption) ?rest23_1
          case hi23_1 => simp only [List.getElem?_toArray, List.getElem?_cons_succ, List.getElem?_cons_zero] <;> rfl
          case hs23_1 => kernel_rfl
          case hf23_1 => kernel_rfl
          case hr23_1 => kernel_rfl
          case hQ23_1 => exact fun _ _ _ h => h
          case hy23_1 => exact Or.inl ⟨by rfl, fun w hSw => by have y0 := cell_keep yc0 hSw; have y1 := cell_keep yc1 hSw; have y2 := cell_keep yc2 hSw; have y3 := cell_keep yc3 hSw; have y4 := cell_keep yc4 hSw; have y5 := cell_keep yc5 hSw; have y6 := cell_keep yc6 hSw; have y7 := cell_keep yc7 hSw; have y8 := cell_keep yc8 hSw; have y9 := cell_keep yc9 hSw; have y10 := cell_keep yc10 hSw; have y11 := cell_keep yc11 hSw; go_simp <;> (try with_reducible rfl)⟩
          simp only [Act.put, List.setIfInBounds_toArray, List.set_cons_zero, List.set_cons_succ]
          refine' wpAnyH_take (i := 24) ?hi24_1 ?hs24_1 ?hf24_1 ?hr24_1 ?hQ24_1 ?hy24_1 (by assumption) ?rest24_1
          case hi24_1 => simp only [List.getElem?_toArray, List.getElem?_cons_succ, List.getElem?_cons_zero] <;> rfl
          case hs24_1 => kernel_rfl
          case hf24_1 => kernel_rfl
          case hr24_1 => kernel_rfl
          case hQ24_1 => exact fun _ _ _ h => h
          case hy24_1 => exact Or.inl ⟨by rfl, fun w hSw => by have y0 := cell_keep yc0 hSw; have y1 := cell_keep yc1 hSw; have y2 := cell_keep yc2 hSw; have y3 := cell_keep yc3 hSw; have y4 := cell_keep yc4 hSw; have y5 := cell_keep yc5 hSw; have y6 := cell_keep yc6 hSw; have y7 := cell_keep yc7 hSw; have y8 := cell_keep yc8 hSw; have y9 := cell_keep yc9 hSw; have y10 := cell_keep yc10 hSw; have y11 := cell_keep yc11 hSw; go_simp <;> (try with_reducible rfl)⟩
          simp only [Act.put, List.setIfInBounds_toArray, List.set_cons_zero, List.set_cons_succ]
          refine wpAnyH_done (by kernel_rfl) ?_ _
          refine NoPanic.normal ?_
          go_upto_region 13 with fail
          refine named_code (fun w10 hW10 => ?_)
          have k10 : Keeps w5 w10 := by rw [hW10]; exact hHeld
          have BY10 := BY5.keep k10
          have BX10 := BX5.keep k10
          have K10 := Keeps.trans K5 k10
          have z10 := (Keeps.trans k45 k10).size
          have k410 := Keeps.trans k45 k10
          have e0 := BX10.c 0 _ rfl
          have e1 := BX10.c 1 _ rfl
          have e19 := BX10.c 19 _ rfl
          have yd0 := BY10.c 0 _ rfl
          have yd1 := BY10.c 1 _ rfl
          have yd2 := BY10.c 2 _ rfl
          have yd3 := BY10.c 3 _ rfl
          have yd4 := BY10.c 4 _ rfl
          have yd5 := BY10.c 5 _ rfl
          have yd6 := BY10.c 6 _ rfl
          have yd7 := BY10.c 7 _ rfl
          have yd8 := BY10.c 8 _ rfl
          have yd9 := BY10.c 9 _ rfl
          have yd10 := BY10.c 10 _ rfl
          have yd11 := BY10.c 11 _ rfl
          have yd12 := BY10.c 12 _ rfl
          clear hHeld hW10 yc0 yc1 yc2 yc3 yc4 yc5 yc6 yc7 yc8 yc9 yc10 yc11 yc12 BY5 BX5 K5 k45 k10
          go_wp2_with fail
          refine Calls.mono (HRun2.out _ k410) ?_
          clear HRun2
          rintro e w11 (⟨hF, _⟩ | ⟨_, s', out, ov, D', hR, rfl, hSt, hout, hCd, _, k11⟩)
          · exact absurd HNZ.out.room (by omega)
          · obtain ⟨q1, q2⟩ := run_none hR HNZ.out.ry.used
            subst q1
            have hbY : ¬ (w4.heap.size = bw ∨ w4.heap.size = vb) := by omega
            have BY11 := BY10.touch k11 hbY
            have K11 : Keeps w w11 := Touch.trans K10 k11 (fun x e hx => by omega)
            have hyv : youngV (fun j => if j = 3 then emp (z 2) else nxL z ⟨frF (frF s.f (s.g 1 ++ s.g 2)) ([] ++ []), z 3, z 0⟩ j) thr = .agg #[.int .i64 (z 0).f, .int .i64 (z 0).t, .int .i64 (z 0).e, .int .i64 (z 1).f, .int .i64 (z 1).t, .int .i64 (z 1).e, .int .i64 (z 3).f, .int .i64 (z 3).t, .int .i64 (z 3).e, .int .i64 (z 2).f, .int .i64 (z 2).t, .int .i64 (z 2).e, .int .i64 thr] := by
              obtain ⟨h1, h2⟩ := HT12.out
              show Value.agg #[.int .i64 (z 0).f, .int .i64 (z 0).t, .int .i64 (z 0).e, .int .i64 (z 1).f, .int .i64 (z 1).f, .int .i64 (z 1).e, .int .i64 (z 3).f, .int .i64 (z 3).t, .int .i64 (z 3).e, .int .i64 (z 2).f, .int .i64 (z 2).f, .int .i64 (z 2).e, .int .i64 thr] = _
              rw [h1, h2]
            have hyv2 := hyv
            rw [hyv2]
            clear hyv hyv2 hR hSt hout hCd e0 e1 e19 yd0 yd1 yd2 yd3 yd4 yd5 yd6 yd7 yd8 yd9 yd10 yd11 yd12
            have hl11 := BY11.lt
            go_wp2_with (first | (refine store_bl ?_ 38 (.tmp 10) (.tmp 92) ?_ (BL.new1 w11 38 _ [.int .i64 0, .int .i64 0, .int .i64 0, .int .i64 0, .int .i64 0, .int .i64 0, .int .i64 0, .int .i64 0, .int .i64 0, .int .i64 0, .int .i64 0, .int .i64 0, .int .i64 0] w11.heap.size rfl rfl) ?_ [.int .i64 (z 0).f, .int .i64 (z 0).t, .int .i64 (z 0).e, .int .i64 (z 1).f, .int .i64 (z 1).t, .int .i64 (z 1).e, .int .i64 (z 3).f, .int .i64 (z 3).t, .int .i64 (z 3).e, .int .i64 (z 2).f, .int .i64 (z 2).t, .int .i64 (z 2).e, .int .i64 thr] ?_ sz_young_ rfl rfl ?_; rfl; rfl; rfl; rfl; intro w12 BZ kBZ; have yz0 := BZ.c 0 _ rfl; have yz1 := BZ.c 1 _ rfl; have yz2 := BZ.c 2 _ rfl; have yz3 := BZ.c 3 _ rfl; have yz4 := BZ.c 4 _ rfl; have yz5 := BZ.c 5 _ rfl; have yz6 := BZ.c 6 _ rfl; have yz7 := BZ.c 7 _ rfl; have yz8 := BZ.c 8 _ rfl; have yz9 := BZ.c 9 _ rfl; have yz10 := BZ.c 10 _ rfl; have yz11 := BZ.c 11 _ rfl; have yz12 := BZ.c 12 _ rfl; have BY12 := BL.touch (BL.alloc BY11 _) kBZ (show ¬ w4.heap.size = w11.heap.size by omega); have yw0 := BY12.c 0 _ rfl; have yw1 := BY12.c 1 _ rfl; have yw2 := BY12.c 2 _ rfl; have yw3 := BY12.c 3 _ rfl; have yw4 := BY12.c 4 _ rfl; have yw5 := BY12.c 5 _ rfl; have yw6 := BY12.c 6 _ rfl; have yw7 := BY12.c 7 _ rfl; have yw8 := BY12.c 8 _ rfl; have yw9 := BY12.c 9 _ rfl; have yw10 := BY12.c 10 _ rfl; have yw11 := BY12.c 11 _ rfl; have yw12 := BY12.c 12 _ rfl))
            go_returns
            exact ⟨rfl, Touch.new (Touch.alloc K11 _) kBZ K11.size⟩

end Go.Proofs.Ytabfbgkablbeeaa
