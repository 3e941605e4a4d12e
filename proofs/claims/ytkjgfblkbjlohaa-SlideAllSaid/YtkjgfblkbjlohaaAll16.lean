/- The law SlideAll. -/
import Derived.Test.YtkjgfblkbjlohaaG37
import Derived.Test.YtkjgfblkbjlohaaAllP
import Derived.Test.YtkjgfblkbjlohaaG35
import Derived.BigQuiet
set_option linter.all false

namespace Go.Proofs.Ytkjgfblkbjlohaa
open Go.RowKit

theorem sum3 (D : Nat → Int) : sumZ D 3 = D 0 + D 1 + D 2 := by show 0 + D 0 + D 1 + D 2 = _; omega
set_option maxRecDepth 100000 in
set_option pp.deepTerms true in
set_option pp.deepTerms.threshold 100000 in
set_option pp.maxSteps 10000000 in
set_option maxHeartbeats 4000000 in
theorem all_walk (w : World) (Ac : Option Addr) (m cc : Nat) (C : Nat → Cl) (Th : Option Addr) (nt tc : Nat) (T : Nat → Thg) (Rf : Option Addr) (nr rc : Nat) (R : Nat → Int) (Ro : Option Addr) (nz zc : Nat) (Z : Nat → Int) (s0 s1 s2 : Int) (h : WArg w Ac m cc C Th nt T Rf nr R Ro nz Z s0 s1 s2) :
    Calls Try.prog 6 #[.agg #[.slice Ac m cc, .slice Th nt tc, .slice Rf nr rc, .slice Ro nz zc, .int .u8 s0, .int .u8 s1, .int .u8 s2]] w fun e w' => e = .returned (.bool true) ∧ Keeps w w' := by
  have HMd := Lib.hid (show ∀ w', Keeps w w' → Calls Try.prog 8 #[.agg #[.slice Ac m cc, .slice Th nt tc, .slice Rf nr rc, .slice Ro nz zc, .int .u8 s0, .int .u8 s1, .int .u8 s2]] w' (MadeOut Ac m cc C nt T w') from fun w' k => made_any w' Ac m cc C Th nt tc T Rf nr rc R Ro nz zc Z s0 s1 s2 (h.keep k))
  have hzl := zero_life
  have HAw := Lib.hid awake_any
  have HArg := Lib.hid h
  have ht := h.tl
  have hml := h.cl
  clear h
  go_enter Try.func6, Try.ntmps6
  go_upto_region 1 with fail
  refine named_code (fun w1 hW1 => ?_)
  have K1 : Keeps w w1 := by rw [hW1]; exact (Touch.refl _ w).alloc _
  have BW : BL w1 w.heap.size 28 [.slice Ac m cc, .slice Th nt tc, .slice Rf nr rc, .slice Ro nz zc, .int .u8 s0, .int .u8 s1, .int .u8 s2] := by rw [hW1]; exact BL.new1 w _ _ [.slice Ac m cc, .slice Th nt tc, .slice Rf nr rc, .slice Ro nz zc, .int .u8 s0, .int .u8 s1, .int .u8 s2] _ rfl rfl
  have z1 : w1.heap.size = w.heap.size + 1 := by rw [hW1]; simp
  clear hW1
  have c0 := BW.c 0 _ rfl
  have c1 := BW.c 1 _ rfl
  go_wp2_with fail
  go_loopw [18] (fun i wr => ∃ k : Nat, k ≤ nt ∧ i = .int .i64 k ∧ (∀ q, q < k → q < 60 → 0 < m → m < 64 → (T q).cl % ((m : Int) + 1) ≠ 0) ∧ Keeps w1 wr) (fun i _ => nt - (intOf i).toNat)
  case atStart => exact ⟨0, by omega, rfl, fun q hq => by omega, Touch.refl _ _⟩
  case round =>
    obtain ⟨w2, rfl⟩ : ∃ w2 : World, w2 = wr := ⟨_, rfl⟩
    obtain ⟨k, hk, rfl, hpre, k2⟩ := hrel
    have HPre := Lib.hid hpre
    have c0 := cell_keep c0 k2
    have c1 := cell_keep c1 k2
    have B2 := BW.keep k2
    clear hpre
    by_cases hlt : k < nt
    · obtain ⟨tb, to_, rfl, hcells⟩ := (HArg.out.ths.keep (Keeps.trans K1 k2)).at_ (k := k) hlt (by omega)
      have d0 : w2.cell? ⟨tb, to_ + k * 4, none⟩ = some (.int .u8 (T k).cl) := by have := hcells 0 (by omega); simpa [thF] using this
      have hcl := (HArg.out.thok k hlt).1
      have hltI : (k : Int) < nt := by omega
      clear hcells
      obtain ⟨cl, hcle⟩ : ∃ cl, (T k).cl = cl := ⟨_, rfl⟩
      rw [hcle] at d0 hcl
      have HCl := Lib.hid hcle
      obtain ⟨hc0, hc1⟩ := hcl
      clear hcle
      have gcl : IntKind.i64.wrap cl = cl := IntWalk.i64_in _ ⟨by omega, by omega⟩
      by_cases h60 : k < 60
      · have h60I : (k : Int) < 60 := by omega
        by_cases hm0 : 0 < m
        · have hm0I : (0 : Int) < m := by omega
          obtain ⟨M1, hM1⟩ : ∃ M1, IntKind.i64.wrap ((m : Int) + 1) = M1 := ⟨_, rfl⟩
          have hMs : m < 64 → M1 = (m : Int) + 1 := fun h => by rw [← hM1]; exact IntWalk.i64_in _ ⟨by omega, by omega⟩
          have hM0 : ¬ (M1 = 0) := by
            rcases (by omega : m < 9223372036854775807 ∨ m = 9223372036854775807) with h | h
            · have : M1 = (m : Int) + 1 := by rw [← hM1]; exact IntWalk.i64_in _ ⟨by omega, by omega⟩
              omega
            · subst h
              have : M1 = -9223372036854775808 := by rw [← hM1]; decide
              omega
          obtain ⟨x, hx⟩ : ∃ x, cl.tmod M1 = x := ⟨_, rfl⟩
          have HX := Lib.hid (show m < 64 → cl % ((m : Int) + 1) = x from fun h => by rw [← hMs h, ← hx, Int.tmod_eq_emod_of_nonneg hc0])
          clear hMs
          by_cases hx0 : x = 0
          · subst hx0
            go_wp2_with fail
            go_quiet (fail)
            go_wp2_with fail
            refine Calls.mono (HAw.out _) ?_
            rintro e w3 ⟨rfl, k3⟩
            go_wp2_with fail
            go_ret
            exact ⟨rfl, Keeps.trans (Keeps.trans K1 (k2.drewN _)) k3⟩
          · have hxb : (x == 0) = false := by simpa using hx0
            have HX0 := Lib.hid hx0
            clear hx0
            go_wp2_with fail
            go_quiet (fail)
            go_wp2_with fail
            go_roundw
            case rel => exact ⟨k + 1, by omega, by go_num, fun q hq h6 hm2 hm3 => by { rcases (by omega : q < k ∨ q = k) with h | rfl; { exact HPre.out q h h6 hm2 hm3 }; { rw [HCl.out, HX.out hm3]; exact HX0.out } }, k2.drewN _⟩
            case measure => simp [intOf]; omega
        · obtain rfl : m = 0 := by omega
          go_wp2_with fail
          go_quiet (fail)
          go_wp2_with fail
          go_roundw
          case rel => exact ⟨k + 1, by omega, by go_num, fun q hq h6 hm2 hm3 => by { rcases (by omega : q < k ∨ q = k) with h | rfl; { exact HPre.out q h h6 hm2 hm3 }; { omega } }, k2.drewN _⟩
          case measure => simp [intOf]; omega
      · have h60d : decide ((k : Int) < 60) = false := decide_eq_false (by omega)
        go_wp2_with fail
        go_quiet (fail)
        go_wp2_with fail
        go_roundw
        case rel => exact ⟨k + 1, by omega, by go_num, fun q hq h6 hm2 hm3 => by { rcases (by omega : q < k ∨ q = k) with h | rfl; { exact HPre.out q h h6 hm2 hm3 }; { omega } }, k2.drewN _⟩
        case measure => simp [intOf]; omega
    · obtain rfl : k = nt := by omega
      have c2 := B2.c 2 _ rfl
      have c3 := B2.c 3 _ rfl
      have c4 := B2.c 4 _ rfl
      have c5 := B2.c 5 _ rfl
      have c6 := B2.c 6 _ rfl
      have K2 := Keeps.trans K1 k2
      go_wp2_with fail
      refine Calls.mono (HMd.out _ K2) ?_
      clear HMd
      rintro e w3 (⟨rfl, k3⟩ | ⟨ba, bw, f, bt, A, cap, gs, scp, av, sv, rv, L, G, ats, stay, roots, rfl, hM, hfull, ⟨hm, hnt60, hm0⟩, k3⟩)
      · have K3 := Keeps.trans K2 k3
        clear K1 k3 K2
        go_wp2_with fail
        refine Calls.mono (HAw.out _) ?_
        rintro e w4 ⟨rfl, k4⟩
        go_wp2_with fail
        refine Calls.mono (HAw.out _) ?_
        rintro e w5 ⟨rfl, k5⟩
        go_wp2_with fail
        go_ret
        exact ⟨rfl, Keeps.trans (Keeps.trans (Touch.alloc K3 _) k4) k5⟩
      · have K3 := Keeps.trans K2 k3
        obtain ⟨aa, ac, hav⟩ := hM.at_.form
        obtain ⟨sa, sc, hsv⟩ := hM.stay_.form
        obtain ⟨ra, rc', hrv⟩ := hM.roots_.form
        subst hav
        subst hsv
        subst hrv
        have hF := hfull (fun i hi => HPre.out i hi (by omega) hm0 hm)
        have HF := Lib.hid hF
        have HM := Lib.hid hM
        have hal := hM.al
        have z2 := K3.size
        have hlow := hM.low
        have hgs := hM.gs
        have hbl := hM.st.ar.lt1
        have hbwl := hM.st.ar.lt2
        have z12 := k2.size
        clear K1 k3 hM hfull hF hnt60 hm0 c0 c1 c2 c3 c4 c5 c6 HPre
        unfold lifeV
        go_wp2_with fail
        refine Calls.mono (HAw.out _) ?_
        rintro e w4 ⟨rfl, k4⟩
        have k34 : Keeps w3 w4 := Keeps.trans ((Touch.refl _ w3).alloc _) k4
        have B4 : BL w4 w3.heap.size 37 [.pointer (some ⟨ba, 0, none⟩), .pointer (some ⟨bt, 0, none⟩), .pointer (some ⟨ba, 0, none⟩), .pointer (some ⟨bt, 0, none⟩), .slice (some ⟨gs, 0, none⟩) 3 scp, .slice aa ats.length ac, .slice sa stay.length sc, .slice ra roots.length rc', .slice Ac m cc] := (BL.new1 w3 37 _ [.pointer (some ⟨ba, 0, none⟩), .pointer (some ⟨bt, 0, none⟩), .pointer (some ⟨ba, 0, none⟩), .pointer (some ⟨bt, 0, none⟩), .slice (some ⟨gs, 0, none⟩) 3 scp, .slice aa ats.length ac, .slice sa stay.length sc, .slice ra roots.length rc', .slice Ac m cc] _ rfl rfl).keep k4
        have HM4 := Lib.hid (HM.out.keep k34)
        have K4 := Keeps.trans K3 k34
        have z4 := k34.size
        have hxl := B4.lt
        clear k4 K3 HM
        have p0 := B4.c 0 _ rfl
        have p1 := B4.c 1 _ rfl
        have p4 := B4.c 4 _ rfl
        have p5 := B4.c 5 _ rfl
        have hso := sort_any aa ats.length ac (gt0 ats) w4 HM4.out.at_.rd.1 (by omega) (fun e => by subst e; exact HM4.out.at_.nilv)
        have HSo := Lib.hid hso
        clear hso
        go_wp2_with fail
        refine Calls.mono HSo.out ?_
        clear HSo
        rintro e w5 ⟨v5, l5, rfl, hown5, hris, hperm, k5⟩
        rw [show (List.range ats.length).map (gt0 ats) = ats from getD_range ats] at hperm
        have hC := HM4.out.st.tb.ok
        have hI := HM4.out.inv
        have hst : Stays 500 m f C ats l5 := ⟨rising_strict hris (hperm.nodup_iff.2 hI.nd), fun x hx => hperm.mem_iff.1 hx, fun a ha x hx => (hI.ref a (hperm.mem_iff.1 ha) x hx).imp_right hperm.mem_iff.2⟩
        have hll : l5.length = ats.length := hperm.length_eq
        obtain ⟨hu1, hu2⟩ := all_used hC hI (by omega) hst (fun x hx => hperm.mem_iff.2 hx) HF.out
        obtain ⟨hr1, hr2⟩ := now_rise hI hC (by omega) hst
        have hi64 := slid_i64 hC hI (by omega) hst
        obtain ⟨c, hc0_, hc3_, hcj⟩ := hst.slid hC hI (by omega)
        have hgood := none_good (n := 500) (m := m) (C := C) (f := slidF 500 m f C L l5) (L := slidNow 500 m f C L l5) ⟨fun j => (List.range' (c j) (c (j + 1) - c j)).map (slidAt 500 m f C L l5), fun j hj => by
          have := (hcj j hj).2.1
          rw [← (sts_fe (L := L) (n := 3) (Z := zOf (atT 500 f m C) (gt0 l5)) l5.length j).1] at this
          exact this⟩ hr1 hr2 (gt0 [])
        obtain ⟨sa5, sc5, hv5⟩ := hown5.form
        subst hv5
        have HRun := Lib.hid (run_own (HM4.out.keep k5).st hI (HM4.out.keep k5).row hst hown5 (fun kk e => by have := (hown5.lt kk e).1; omega) (by omega) (OwnInts.nil_ _ 0) (fun kk e => by cases e) (by simp) (fun x hx => by cases hx) scp)
        have hfe : ∀ j, (slidNow 500 m f C L l5 j).f = (L j).f ∧ (slidNow 500 m f C L l5 j).e = (L j).e := fun j => sts_fe (L := L) (n := 3) (Z := zOf (atT 500 f m C) (gt0 l5)) l5.length j
        obtain ⟨S1, hS1⟩ : ∃ S1, slidNow 500 m f C L l5 = S1 := ⟨_, rfl⟩
        obtain ⟨f1, hf1⟩ : ∃ f1, slidF 500 m f C L l5 = f1 := ⟨_, rfl⟩
        rw [hS1] at hu1 hu2 hr1 hr2 hgood hfe
        rw [hf1] at hgood hi64
        have HFS := Lib.hid (And.intro hS1 hf1)
        have HGd := Lib.hid hgood
        have HI64 := Lib.hid hi64
        have HR1 := Lib.hid hr1
        have HRL := Lib.hid hI.rise
        have HD := Lib.hid (show sumZ (fun i => (S1 i).t - (L i).t) 3 = 0 from by rw [sum3]; omega)
        have HU1 := Lib.hid hu1
        have HFe := Lib.hid hfe
        have B5 := B4.keep k5
        have z5 := k5.size
        clear hown5 hris hperm hC hI hst hll hu1 hu2 hr1 hr2 hi64 hcj hgood hS1 hf1 hfe hc0_ hc3_ p0 p1 p4 p5
        have p0 := B5.c 0 _ rfl
        have p1 := B5.c 1 _ rfl
        have p4 := B5.c 4 _ rfl
        go_wp2_with fail
        refine Calls.mono HRun.out ?_
        clear HRun
        rintro e w6 ⟨v6, ad, cp, rfl, _, hnow, hst6, o6⟩
        have hst6' : St w6 ba bw 500 f1 bt A m cap C := by rw [← HFS.out.2]; exact hst6
        have hnow' : NowR 44 w6 ad 3 w5.heap.size w6.heap.size S1 := by rw [← HFS.out.1]; exact hnow
        have B6 := B5.touch o6 (show ¬ w3.heap.size = bw by omega)
        have z6 := o6.size
        have K6 := (Keeps.trans K4 k5).new o6 (by omega)
        have HRow6 := Lib.hid ((HM4.out.keep k5).row.at_touch o6 hgs.2 o6.size)
        have HSt6 := Lib.hid hst6'
        have HNow6 := Lib.hid hnow'
        have ka : Keeps w6 (w6.alloc (.cells #[.int .i64 0] 3)) := (Touch.refl _ w6).alloc _
        have hrun2 := run_any ba bw 500 f1 bt A m cap C (w6.alloc (.cells #[.int .i64 0] 3)) (hst6'.keep ka) HI64.out ad 3 cp S1 (hnow'.rd.keep ka) (fun i hi => by
          have h1 := (rightB_iff _).1 (HR1.out i hi).1
          unfold InI; omega) (by omega) none 0 0 (gt0 []) (fun hn => by omega) (fun i hi => by omega) (by omega) (fun _ => ⟨rfl, rfl⟩) (fun b off e => by cases e)
          (some ⟨w6.heap.size, 0, none⟩) 1 1 (fun _ => 0) (rd_one w6 _ 0 rfl) (fun i hi => i64_small (by decide) (by decide)) (by omega) (fun b off e => by
            simp only [Option.some.injEq, Addr.mk.injEq, and_true] at e
            obtain ⟨rfl, _⟩ := e
            omega)
        have HRun := Lib.hid hrun2
        have p0 := B6.c 0 _ rfl
        have p1 := B6.c 1 _ rfl
        clear hnow hst6 hst6' hnow' hrun2 p4
        go_wp2_with fail
        refine Calls.mono HRun.out ?_
        clear HRun
        rintro e w7 hh7
        have h7 := (hh7.resolve_right (fun h => h.1 HGd.out)).2
        clear hh7
        obtain ⟨v7, ad2, cp2, rfl, _, hnow2, _, o7⟩ := h7
        have o67 : Only bw w6 w7 := Touch.trans (Touch.only ka) o7 (fun x hx _ => hx)
        have B7 := B6.touch o67 (show ¬ w3.heap.size = bw by omega)
        have K7 := K6.new o67 (by omega)
        have HRow7 := Lib.hid (HRow6.out.at_touch o67 hgs.2 o67.size).rd
        have HN1 := Lib.hid (HNow6.out.touch o67 (fun g h1 h2 e => by omega)).rd
        have HN2 := Lib.hid hnow2.rd
        obtain ⟨S2, hS2⟩ : ∃ S2, (sts S1 3 (zOf (atT 500 f1 m C) (gt0 [])) 0).now = S2 := ⟨_, rfl⟩
        have hE2 : ∀ j, S2 j = ⟨(S1 j).f, (S1 j).f, (S1 j).e⟩ := fun j => by rw [← hS2]; rfl
        rw [hS2] at HN2
        have HE2 := Lib.hid hE2
        have z7 := o67.size
        clear hnow2 o7 hE2 hS2 ka HSt6 HNow6 HRow6 p0 p1 HGd HI64 HFS
        have HUs := Lib.hid used_any
        have HBd := Lib.hid (show ∀ j, j < 3 → (0 ≤ (S1 j).t - (S1 j).f ∧ (S1 j).t - (S1 j).f ≤ 4096) ∧ (0 ≤ (L j).t - (L j).f ∧ (L j).t - (L j).f ≤ 4096) ∧ -4096 ≤ (S1 j).t - (L j).t ∧ (S1 j).t - (L j).t ≤ 4096 from fun j hj => by
          have h1 := (rightB_iff _).1 (HR1.out j hj).1
          have h2 := (rightB_iff _).1 (HRL.out j hj).1
          omega)
        obtain ⟨D, hD⟩ : ∃ D, (fun i => (S1 i).t - (L i).t) = D := ⟨_, rfl⟩
        rw [hD] at HD
        have HDe := Lib.hid (show ∀ j, D j = ((S1 j).t - (S1 j).f) - ((L j).t - (L j).f) from fun j => by rw [← hD, (HFe.out j).1]; show (S1 j).t - (L j).t = _; omega)
        have HDb := Lib.hid (show ∀ j, j ≤ 3 → -20000 ≤ sumZ D j ∧ sumZ D j ≤ 20000 from fun j hj => by
          have b0 := (HBd.out 0 (by omega)).2.2
          have b1 := (HBd.out 1 (by omega)).2.2
          have b2 := (HBd.out 2 (by omega)).2.2
          have d0 : D 0 = (S1 0).t - (L 0).t := by rw [← hD]
          have d1 : D 1 = (S1 1).t - (L 1).t := by rw [← hD]
          have d2 : D 2 = (S1 2).t - (L 2).t := by rw [← hD]
          rcases (by omega : j = 0 ∨ j = 1 ∨ j = 2 ∨ j = 3) with rfl | rfl | rfl | rfl
          · exact ⟨by show (-20000 : Int) ≤ 0; omega, by show (0 : Int) ≤ 20000; omega⟩
          · have : sumZ D 1 = 0 + D 0 := rfl
            omega
          · have : sumZ D 2 = 0 + D 0 + D 1 := rfl
            omega
          · rw [sum3]; omega)
        clear hD
        go_wp2_with fail
        go_loopw [13, 102] (fun wd i wr => ∃ j : Nat, j ≤ 3 ∧ i = .int .i64 j ∧ wd = .int .i64 (sumZ D j) ∧ Keeps w7 wr) (fun _ i _ => 3 - (intOf i).toNat)
        case atStart => exact ⟨0, by omega, rfl, rfl, Touch.refl _ _⟩
        case round =>
        obtain ⟨w8, rfl⟩ : ∃ w8 : World, w8 = wr := ⟨_, rfl⟩
        obtain ⟨j, hj, rfl, rfl, k8⟩ := hrel
        have B8 := B7.keep k8
        have p4 := B8.c 4 _ rfl
        by_cases hlt : j < 3
        · have hltI : (j : Int) < 3 := by omega
          obtain ⟨b, o, rfl, e0, e1, e2⟩ := (HN1.out.keep k8).sp hlt
          obtain ⟨b', o', hgo, g0, g1, g2⟩ := (HRow7.out.keep k8).sp hlt
          simp only [Option.some.injEq, Addr.mk.injEq, and_true] at hgo
          obtain ⟨rfl, rfl⟩ := hgo
          obtain ⟨b2, o2, rfl, m0, m1, m2⟩ := (HN2.out.keep k8).sp hlt
          obtain ⟨b3, o3, hno, n0, n1, n2⟩ := (HN1.out.keep k8).sp (show 0 < 3 by omega)
          simp only [Option.some.injEq, Addr.mk.injEq, and_true] at hno
          obtain ⟨rfl, rfl⟩ := hno
          obtain ⟨b4, o4, hxo, x0, x1, x2⟩ := (HRow7.out.keep k8).sp (show 0 < 3 by omega)
          simp only [Option.some.injEq, Addr.mk.injEq, and_true] at hxo
          obtain ⟨rfl, rfl⟩ := hxo
          rw [HE2.out j] at m0 m1 m2
          simp only [Nat.zero_mul, Nat.add_zero, Nat.zero_add] at n0 n1 n2 x0 x1 x2
          simp only [Nat.zero_add] at g0 g1 g2
          obtain ⟨ua, hua⟩ : ∃ ua, (S1 j).t - (S1 j).f = ua := ⟨_, rfl⟩
          obtain ⟨ub, hub⟩ : ∃ ub, (L j).t - (L j).f = ub := ⟨_, rfl⟩
          obtain ⟨ud, hud⟩ : ∃ ud, (S1 0).t - (S1 0).f = ud := ⟨_, rfl⟩
          obtain ⟨ue, hue⟩ : ∃ ue, (L 0).t - (L 0).f = ue := ⟨_, rfl⟩
          have HUa := Lib.hid (show ∀ w', Calls Try.prog 20 #[.agg #[.int .i64 (S1 j).f, .int .i64 (S1 j).t, .int .i64 (S1 j).e]] w' fun e w2 => e = .returned (.int .i64 ua) ∧ Keeps w' w2 from fun w' => by rw [← hua]; exact HUs.out (S1 j) w' (HR1.out j hlt).1)
          have HUb := Lib.hid (show ∀ w', Calls Try.prog 20 #[.agg #[.int .i64 (L j).f, .int .i64 (L j).t, .int .i64 (L j).e]] w' fun e w2 => e = .returned (.int .i64 ub) ∧ Keeps w' w2 from fun w' => by rw [← hub]; exact HUs.out (L j) w' (HRL.out j hlt).1)
          have HUc := Lib.hid (show ∀ w', Calls Try.prog 20 #[.agg #[.int .i64 (S1 j).f, .int .i64 (S1 j).f, .int .i64 (S1 j).e]] w' fun e w2 => e = .returned (.int .i64 0) ∧ Keeps w' w2 from fun w' => by
            have h1 := (rightB_iff _).1 (HR1.out j hlt).1
            have h2 := HUs.out ⟨(S1 j).f, (S1 j).f, (S1 j).e⟩ w' ((rightB_iff _).2 ⟨h1.1, Int.le_refl _, by show (S1 j).f ≤ (S1 j).e; omega, h1.2.2.2⟩)
            simp only [Int.sub_self] at h2
            exact h2)
          have HUd := Lib.hid (show ∀ w', Calls Try.prog 20 #[.agg #[.int .i64 (S1 0).f, .int .i64 (S1 0).t, .int .i64 (S1 0).e]] w' fun e w2 => e = .returned (.int .i64 ud) ∧ Keeps w' w2 from fun w' => by rw [← hud]; exact HUs.out (S1 0) w' (HR1.out 0 (by omega)).1)
          have HUe := Lib.hid (show ∀ w', Calls Try.prog 20 #[.agg #[.int .i64 (L 0).f, .int .i64 (L 0).t, .int .i64 (L 0).e]] w' fun e w2 => e = .returned (.int .i64 ue) ∧ Keeps w' w2 from fun w' => by rw [← hue]; exact HUs.out (L 0) w' (HRL.out 0 (by omega)).1)
          have hde : decide (ud < ue) = false := decide_eq_false (by have := HU1.out; have := (HFe.out 0).1; omega)
          have hbd := HBd.out j hlt
          rw [hua, hub] at hbd
          have hDj : D j = ua - ub := by rw [HDe.out j, hua, hub]
          have hWb := HDb.out j hj
          have hWe : sumZ D (j + 1) = sumZ D j + (ua - ub) := by show sumZ D j + D j = _; rw [hDj]
          have HWe := Lib.hid hWe
          obtain ⟨W, hW⟩ : ∃ W, sumZ D j = W := ⟨_, rfl⟩
          rw [hW] at hWb HWe
          rw [hW]
          have gd : IntKind.i64.wrap (ua - ub) = ua - ub := IntWalk.i64_in _ ⟨by omega, by omega⟩
          have gw : IntKind.i64.wrap (W + (ua - ub)) = W + (ua - ub) := IntWalk.i64_in _ ⟨by omega, by omega⟩
          clear hua hub hud hue hDj hWe hW HUs HF HArg HAw HM4
          go_wp2_with fail
          refine wp_region_noPanic ?_
          refine wp_region_held_drew (S := (fun w' => Keeps w8 w')) (by kernel_rfl) (Touch.refl _ w8).drew (fun hHeld => ?_)
          refine' wpAnyH_take (i := 0) ?hi0_1 ?hs0_1 ?hf0_1 ?hr0_1 ?hQ0_1 ?hy0_1 (by assumption) ?rest0_1
          case hi0_1 => simp only [List.getElem?_toArray, List.getElem?_cons_zero] <;> rfl
          case hs0_1 => kernel_rfl
          case hf0_1 => kernel_rfl
          case hr0_1 => kernel_rfl
          case hQ0_1 => exact fun _ _ _ h => h
          case hy0_1 => exact Or.inl ⟨by rfl, fun w hSw => by have q0 := cell_keep p4 hSw; have q1 := cell_keep e0 hSw; have q2 := cell_keep e1 hSw; have q3 := cell_keep e2 hSw; have q4 := cell_keep g0 hSw; have q5 := cell_keep g1 hSw; have q6 := cell_keep g2 hSw; go_simp <;> (try with_reducible rfl)⟩
          simp only [Act.put, List.setIfInBounds_toArray, List.set_cons_zero, List.set_cons_succ]
          refine' wpAnyH_take (i := 1) ?hi1_1 ?hs1_1 ?hf1_1 ?hr1_1 ?hQ1_1 ?hy1_1 (by assumption) ?rest1_1
          case hi1_1 => simp only [List.getElem?_toArray, List.getElem?_cons_succ, List.getElem?_cons_zero] <;> rfl
          case hs1_1 => kernel_rfl
          case hf1_1 => kernel_rfl
          case hr1_1 => kernel_rfl
          case hQ1_1 => exact fun _ _ _ h => h
          case hy1_1 => exact Or.inl ⟨by rfl, fun w hSw => by have q0 := cell_keep p4 hSw; have q1 := cell_keep e0 hSw; have q2 := cell_keep e1 hSw; have q3 := cell_keep e2 hSw; have q4 := cell_keep g0 hSw; have q5 := cell_keep g1 hSw; have q6 := cell_keep g2 hSw; go_simp <;> (try with_reducible rfl)⟩
          simp only [Act.put, List.setIfInBounds_toArray, List.set_cons_zero, List.set_cons_succ]
          refine' wpAnyH_take (i := 2) ?hi2_1 ?hs2_1 ?hf2_1 ?hr2_1 ?hQ2_1 ?hy2_1 (by assumption) ?rest2_1
          case hi2_1 => simp only [List.getElem?_toArray, List.getElem?_cons_succ, List.getElem?_cons_zero] <;> rfl
          case hs2_1 => kernel_rfl
          case hf2_1 => kernel_rfl
          case hr2_1 => kernel_rfl
          case hQ2_1 => exact fun _ _ _ h => h
          case hy2_1 => exact Or.inl ⟨by rfl, fun w hSw => by have q0 := cell_keep p4 hSw; have q1 := cell_keep e0 hSw; have q2 := cell_keep e1 hSw; have q3 := cell_keep e2 hSw; have q4 := cell_keep g0 hSw; have q5 := cell_keep g1 hSw; have q6 := cell_keep g2 hSw; go_simp <;> (try with_reducible rfl)⟩
          simp only [Act.put, List.setIfInBounds_toArray, List.set_cons_zero, List.set_cons_succ]
          refine' wpAnyH_take (i := 3) ?hi3_1 ?hs3_1 ?hf3_1 ?hr3_1 ?hQ3_1 ?hy3_1 (by assumption) ?rest3_1
          case hi3_1 => simp only [List.getElem?_toArray, List.getElem?_cons_succ, List.getElem?_cons_zero] <;> rfl
          case hs3_1 => kernel_rfl
          case hf3_1 => kernel_rfl
          case hr3_1 => kernel_rfl
          case hQ3_1 => exact fun _ _ _ h => h
          case hy3_1 => exact Or.inl ⟨by rfl, fun w hSw => by have q0 := cell_keep p4 hSw; have q1 := cell_keep e0 hSw; have q2 := cell_keep e1 hSw; have q3 := cell_keep e2 hSw; have q4 := cell_keep g0 hSw; have q5 := cell_keep g1 hSw; have q6 := cell_keep g2 hSw; go_simp <;> (try with_reducible rfl)⟩
          simp only [Act.put, List.setIfInBounds_toArray, List.set_cons_zero, List.set_cons_succ]
          refine' wpAnyH_take (i := 4) ?hi4_1 ?hs4_1 ?hf4_1 ?hr4_1 ?hQ4_1 ?hy4_1 (by assumption) ?rest4_1
          case hi4_1 => simp only [List.getElem?_toArray, List.getElem?_cons_succ, List.getElem?_cons_zero] <;> rfl
          case hs4_1 => kernel_rfl
          case hf4_1 => kernel_rfl
          case hr4_1 => kernel_rfl
          case hQ4_1 => exact fun _ _ _ h => h
          case hy4_1 => exact Or.inl ⟨by rfl, fun w hSw => by have q0 := cell_keep p4 hSw; have q1 := cell_keep e0 hSw; have q2 := cell_keep e1 hSw; have q3 := cell_keep e2 hSw; have q4 := cell_keep g0 hSw; have q5 := cell_keep g1 hSw; have q6 := cell_keep g2 hSw; go_simp <;> (try with_reducible rfl)⟩
          simp only [Act.put, List.setIfInBounds_toArray, List.set_cons_zero, List.set_cons_succ]
          refine' wpAnyH_take (i := 6) ?hi6_1 ?hs6_1 ?hf6_1 ?hr6_1 ?hQ6_1 ?hy6_1 (by assumption) ?rest6_1
          case hi6_1 => simp only [List.getElem?_toArray, List.getElem?_cons_succ, List.getElem?_cons_zero] <;> rfl
          case hs6_1 => kernel_rfl
          case hf6_1 => kernel_rfl
          case hr6_1 => kernel_rfl
          case hQ6_1 => exact fun _ _ _ h => h
          case hy6_1 => exact Or.inl ⟨by rfl, fun w hSw => by have q0 := cell_keep p4 hSw; have q1 := cell_keep e0 hSw; have q2 := cell_keep e1 hSw; have q3 := cell_keep e2 hSw; have q4 := cell_keep g0 hSw; have q5 := cell_keep g1 hSw; have q6 := cell_keep g2 hSw; go_simp <;> (try with_reducible rfl)⟩
          simp only [Act.put, List.setIfInBounds_toArray, List.set_cons_zero, List.set_cons_succ]
          refine' wpAnyH_take (i := 7) ?hi7_1 ?hs7_1 ?hf7_1 ?hr7_1 ?hQ7_1 ?hy7_1 (by assumption) ?rest7_1
          case hi7_1 => simp only [List.getElem?_toArray, List.getElem?_cons_succ, List.getElem?_cons_zero] <;> rfl
          case hs7_1 => kernel_rfl
          case hf7_1 => kernel_rfl
          case hr7_1 => kernel_rfl
          case hQ7_1 => exact fun _ _ _ h => h
          case hy7_1 => exact Or.inl ⟨by rfl, fun w hSw => by have q0 := cell_keep p4 hSw; have q1 := cell_keep e0 hSw; have q2 := cell_keep e1 hSw; have q3 := cell_keep e2 hSw; have q4 := cell_keep g0 hSw; have q5 := cell_keep g1 hSw; have q6 := cell_keep g2 hSw; go_simp <;> (try with_reducible rfl)⟩
          simp only [Act.put, List.setIfInBounds_toArray, List.set_cons_zero, List.set_cons_succ]
          refine' wpAnyH_take (i := 8) ?hi8_1 ?hs8_1 ?hf8_1 ?hr8_1 ?hQ8_1 ?hy8_1 (by assumption) ?rest8_1
          case hi8_1 => simp only [List.getElem?_toArray, List.getElem?_cons_succ, List.getElem?_cons_zero] <;> rfl
          case hs8_1 => kernel_rfl
          case hf8_1 => kernel_rfl
          case hr8_1 => kernel_rfl
          case hQ8_1 => exact fun _ _ _ h => h
          case hy8_1 => exact Or.inl ⟨by rfl, fun w hSw => by have q0 := cell_keep p4 hSw; have q1 := cell_keep e0 hSw; have q2 := cell_keep e1 hSw; have q3 := cell_keep e2 hSw; have q4 := cell_keep g0 hSw; have q5 := cell_keep g1 hSw; have q6 := cell_keep g2 hSw; go_simp <;> (try with_reducible rfl)⟩
          simp only [Act.put, List.setIfInBounds_toArray, List.set_cons_zero, List.set_cons_succ]
          refine' wpAnyH_take (i := 9) ?hi9_1 ?hs9_1 ?hf9_1 ?hr9_1 ?hQ9_1 ?hy9_1 (by assumption) ?rest9_1
          case hi9_1 => simp only [List.getElem?_toArray, List.getElem?_cons_succ, List.getElem?_cons_zero] <;> rfl
          case hs9_1 => kernel_rfl
          case hf9_1 => kernel_rfl
          case hr9_1 => kernel_rfl
          case hQ9_1 => exact fun _ _ _ h => h
          case hy9_1 => exact Or.inl ⟨by rfl, fun w hSw => by have q0 := cell_keep p4 hSw; have q1 := cell_keep e0 hSw; have q2 := cell_keep e1 hSw; have q3 := cell_keep e2 hSw; have q4 := cell_keep g0 hSw; have q5 := cell_keep g1 hSw; have q6 := cell_keep g2 hSw; go_simp <;> (try with_reducible rfl)⟩
          simp only [Act.put, List.setIfInBounds_toArray, List.set_cons_zero, List.set_cons_succ]
          refine' wpAnyH_take (i := 10) ?hi10_1 ?hs10_1 ?hf10_1 ?hr10_1 ?hQ10_1 ?hy10_1 (by assumption) ?rest10_1
          case hi10_1 => simp only [List.getElem?_toArray, List.getElem?_cons_succ, List.getElem?_cons_zero] <;> rfl
          case hs10_1 => kernel_rfl
          case hf10_1 => kernel_rfl
          case hr10_1 => kernel_rfl
          case hQ10_1 => exact fun _ _ _ h => h
          case hy10_1 => exact Or.inl ⟨by rfl, fun w hSw => by have q0 := cell_keep p4 hSw; have q1 := cell_keep e0 hSw; have q2 := cell_keep e1 hSw; have q3 := cell_keep e2 hSw; have q4 := cell_keep g0 hSw; have q5 := cell_keep g1 hSw; have q6 := cell_keep g2 hSw; go_simp <;> (try with_reducible rfl)⟩
          simp only [Act.put, List.setIfInBounds_toArray, List.set_cons_zero, List.set_cons_succ]
          refine wpAnyH_ready (rs := [5]) (by kernel_rfl) (by simp) ?_
          refine AllReadyH.cons rfl (fun K hK => ?_) AllReadyH.nil
          go_simp
          with_reducible refine Calls.mono (HUa.out _) ?_
          rintro e w9 ⟨rfl, k9⟩
          go_wp2_with fail
          have h9 := Keeps.trans hHeld k9
          refine hK.out _ _ h9 (fun hHeld => ?_)
          clear hK K
          refine wpAnyH_ready (rs := [11]) (by kernel_rfl) (by simp) ?_
          refine AllReadyH.cons rfl (fun K hK => ?_) AllReadyH.nil
          go_simp
          with_reducible refine Calls.mono (HUb.out _) ?_
          rintro e w10 ⟨rfl, k10⟩
          go_wp2_with fail
          have h10 := Keeps.trans h9 k10
          refine hK.out _ _ h10 (fun hHeld => ?_)
          clear hK K
          refine' wpAnyH_take (i := 12) ?hi12_1 ?hs12_1 ?hf12_1 ?hr12_1 ?hQ12_1 ?hy12_1 (by assumption) ?rest12_1
          case hi12_1 => simp only [List.getElem?_toArray, List.getElem?_cons_succ, List.getElem?_cons_zero] <;> rfl
          case hs12_1 => kernel_rfl
          case hf12_1 => kernel_rfl
          case hr12_1 => kernel_rfl
          case hQ12_1 => exact fun _ _ _ h => h
          case hy12_1 => exact Or.inl ⟨by rfl, fun w hSw => by go_simp <;> (try with_reducible rfl)⟩
          simp only [Act.put, List.setIfInBounds_toArray, List.set_cons_zero, List.set_cons_succ]
          refine' wpAnyH_take (i := 13) ?hi13_1 ?hs13_1 ?hf13_1 ?hr13_1 ?hQ13_1 ?hy13_1 (by assumption) ?rest13_1
          case hi13_1 => simp only [List.getElem?_toArray, List.getElem?_cons_succ, List.getElem?_cons_zero] <;> rfl
          case hs13_1 => kernel_rfl
          case hf13_1 => kernel_rfl
          case hr13_1 => kernel_rfl
          case hQ13_1 => exact fun _ _ _ h => h
          case hy13_1 => exact Or.inl ⟨by rfl, fun w hSw => by go_simp <;> (try with_reducible rfl)⟩
          simp only [Act.put, List.setIfInBounds_toArray, List.set_cons_zero, List.set_cons_succ]
          refine' wpAnyH_take (i := 14) ?hi14_1 ?hs14_1 ?hf14_1 ?hr14_1 ?hQ14_1 ?hy14_1 (by assumption) ?rest14_1
          case hi14_1 => simp only [List.getElem?_toArray, List.getElem?_cons_succ, List.getElem?_cons_zero] <;> rfl
          case hs14_1 => kernel_rfl
          case hf14_1 => kernel_rfl
          case hr14_1 => kernel_rfl
          case hQ14_1 => exact fun _ _ _ h => h
          case hy14_1 => exact Or.inl ⟨by rfl, fun w hSw => by go_simp <;> (try with_reducible rfl)⟩
          simp only [Act.put, List.setIfInBounds_toArray, List.set_cons_zero, List.set_cons_succ]
          refine wpAnyH_done (by kernel_rfl) ?_ _
          refine NoPanic.normal ?_
          have p4 := cell_keep p4 h10
          have m0 := cell_keep m0 h10
          have m1 := cell_keep m1 h10
          have m2 := cell_keep m2 h10
          have n0 := cell_keep n0 h10
          have n1 := cell_keep n1 h10
          have n2 := cell_keep n2 h10
          have x0 := cell_keep x0 h10
          have x1 := cell_keep x1 h10
          have x2 := cell_keep x2 h10
          clear e0 e1 e2 g0 g1 g2 HUa HUb k9 k10 h9
          go_wp2_with fail
          refine wp_region_noPanic ?_
          refine wp_region_held_drew (S := (fun w' => Keeps w10 w')) (by kernel_rfl) (Touch.refl _ w10).drew (fun hHeld => ?_)
          refine' wpAnyH_take (i := 0) ?hi0_2 ?hs0_2 ?hf0_2 ?hr0_2 ?hQ0_2 ?hy0_2 (by assumption) ?rest0_2
          case hi0_2 => simp only [List.getElem?_toArray, List.getElem?_cons_zero] <;> rfl
          case hs0_2 => kernel_rfl
          case hf0_2 => kernel_rfl
          case hr0_2 => kernel_rfl
          case hQ0_2 => exact fun _ _ _ h => h
          case hy0_2 => exact Or.inl ⟨by rfl, fun w hSw => by have q0 := cell_keep p4 hSw; have q1 := cell_keep m0 hSw; have q2 := cell_keep m1 hSw; have q3 := cell_keep m2 hSw; have q4 := cell_keep n0 hSw; have q5 := cell_keep n1 hSw; have q6 := cell_keep n2 hSw; have q7 := cell_keep x0 hSw; have q8 := cell_keep x1 hSw; have q9 := cell_keep x2 hSw; go_simp <;> (try with_reducible rfl)⟩
          simp only [Act.put, List.setIfInBounds_toArray, List.set_cons_zero, List.set_cons_succ]
          refine' wpAnyH_take (i := 1) ?hi1_2 ?hs1_2 ?hf1_2 ?hr1_2 ?hQ1_2 ?hy1_2 (by assumption) ?rest1_2
          case hi1_2 => simp only [List.getElem?_toArray, List.getElem?_cons_succ, List.getElem?_cons_zero] <;> rfl
          case hs1_2 => kernel_rfl
          case hf1_2 => kernel_rfl
          case hr1_2 => kernel_rfl
          case hQ1_2 => exact fun _ _ _ h => h
          case hy1_2 => exact Or.inl ⟨by rfl, fun w hSw => by have q0 := cell_keep p4 hSw; have q1 := cell_keep m0 hSw; have q2 := cell_keep m1 hSw; have q3 := cell_keep m2 hSw; have q4 := cell_keep n0 hSw; have q5 := cell_keep n1 hSw; have q6 := cell_keep n2 hSw; have q7 := cell_keep x0 hSw; have q8 := cell_keep x1 hSw; have q9 := cell_keep x2 hSw; go_simp <;> (try with_reducible rfl)⟩
          simp only [Act.put, List.setIfInBounds_toArray, List.set_cons_zero, List.set_cons_succ]
          refine' wpAnyH_take (i := 2) ?hi2_2 ?hs2_2 ?hf2_2 ?hr2_2 ?hQ2_2 ?hy2_2 (by assumption) ?rest2_2
          case hi2_2 => simp only [List.getElem?_toArray, List.getElem?_cons_succ, List.getElem?_cons_zero] <;> rfl
          case hs2_2 => kernel_rfl
          case hf2_2 => kernel_rfl
          case hr2_2 => kernel_rfl
          case hQ2_2 => exact fun _ _ _ h => h
          case hy2_2 => exact Or.inl ⟨by rfl, fun w hSw => by have q0 := cell_keep p4 hSw; have q1 := cell_keep m0 hSw; have q2 := cell_keep m1 hSw; have q3 := cell_keep m2 hSw; have q4 := cell_keep n0 hSw; have q5 := cell_keep n1 hSw; have q6 := cell_keep n2 hSw; have q7 := cell_keep x0 hSw; have q8 := cell_keep x1 hSw; have q9 := cell_keep x2 hSw; go_simp <;> (try with_reducible rfl)⟩
          simp only [Act.put, List.setIfInBounds_toArray, List.set_cons_zero, List.set_cons_succ]
          refine' wpAnyH_take (i := 3) ?hi3_2 ?hs3_2 ?hf3_2 ?hr3_2 ?hQ3_2 ?hy3_2 (by assumption) ?rest3_2
          case hi3_2 => simp only [List.getElem?_toArray, List.getElem?_cons_succ, List.getElem?_cons_zero] <;> rfl
          case hs3_2 => kernel_rfl
          case hf3_2 => kernel_rfl
          case hr3_2 => kernel_rfl
          case hQ3_2 => exact fun _ _ _ h => h
          case hy3_2 => exact Or.inl ⟨by rfl, fun w hSw => by have q0 := cell_keep p4 hSw; have q1 := cell_keep m0 hSw; have q2 := cell_keep m1 hSw; have q3 := cell_keep m2 hSw; have q4 := cell_keep n0 hSw; have q5 := cell_keep n1 hSw; have q6 := cell_keep n2 hSw; have q7 := cell_keep x0 hSw; have q8 := cell_keep x1 hSw; have q9 := cell_keep x2 hSw; go_simp <;> (try with_reducible rfl)⟩
          simp only [Act.put, List.setIfInBounds_toArray, List.set_cons_zero, List.set_cons_succ]
          refine wpAnyH_ready (rs := [4]) (by kernel_rfl) (by simp) ?_
          refine AllReadyH.cons rfl (fun K hK => ?_) AllReadyH.nil
          go_simp
          with_reducible refine Calls.mono (HUc.out _) ?_
          rintro e w11 ⟨rfl, k11⟩
          go_wp2_with fail
          have h11 := Keeps.trans hHeld k11
          refine hK.out _ _ h11 (fun hHeld => ?_)
          clear hK K
          refine' wpAnyH_take (i := 5) ?hi5_2 ?hs5_2 ?hf5_2 ?hr5_2 ?hQ5_2 ?hy5_2 (by assumption) ?rest5_2
          case hi5_2 => simp only [List.getElem?_toArray, List.getElem?_cons_succ, List.getElem?_cons_zero] <;> rfl
          case hs5_2 => kernel_rfl
          case hf5_2 => kernel_rfl
          case hr5_2 => kernel_rfl
          case hQ5_2 => exact fun _ _ _ h => h
          case hy5_2 => exact Or.inl ⟨by rfl, fun w hSw => by go_simp <;> (try with_reducible rfl)⟩
          simp only [Act.put, List.setIfInBounds_toArray, List.set_cons_zero, List.set_cons_succ]
          refine' wpAnyH_take (i := 6) ?hi6_2 ?hs6_2 ?hf6_2 ?hr6_2 ?hQ6_2 ?hy6_2 (by assumption) ?rest6_2
          case hi6_2 => simp only [List.getElem?_toArray, List.getElem?_cons_succ, List.getElem?_cons_zero] <;> rfl
          case hs6_2 => kernel_rfl
          case hf6_2 => kernel_rfl
          case hr6_2 => kernel_rfl
          case hQ6_2 => exact fun _ _ _ h => h
          case hy6_2 => exact Or.inl ⟨by rfl, fun w hSw => by go_simp <;> (try with_reducible rfl)⟩
          simp only [Act.put, List.setIfInBounds_toArray, List.set_cons_zero, List.set_cons_succ]
          refine' wpAnyH_take (i := 7) ?hi7_2 ?hs7_2 ?hf7_2 ?hr7_2 ?hQ7_2 ?hy7_2 (by assumption) ?rest7_2
          case hi7_2 => simp only [List.getElem?_toArray, List.getElem?_cons_succ, List.getElem?_cons_zero] <;> rfl
          case hs7_2 => kernel_rfl
          case hf7_2 => kernel_rfl
          case hr7_2 => kernel_rfl
          case hQ7_2 => exact fun _ _ _ h => h
          case hy7_2 => exact Or.inl ⟨by rfl, fun w hSw => by have q0 := cell_keep p4 hSw; have q1 := cell_keep m0 hSw; have q2 := cell_keep m1 hSw; have q3 := cell_keep m2 hSw; have q4 := cell_keep n0 hSw; have q5 := cell_keep n1 hSw; have q6 := cell_keep n2 hSw; have q7 := cell_keep x0 hSw; have q8 := cell_keep x1 hSw; have q9 := cell_keep x2 hSw; go_simp <;> (try with_reducible rfl)⟩
          simp only [Act.put, List.setIfInBounds_toArray, List.set_cons_zero, List.set_cons_succ]
          refine' wpAnyH_take (i := 8) ?hi8_2 ?hs8_2 ?hf8_2 ?hr8_2 ?hQ8_2 ?hy8_2 (by assumption) ?rest8_2
          case hi8_2 => simp only [List.getElem?_toArray, List.getElem?_cons_succ, List.getElem?_cons_zero] <;> rfl
          case hs8_2 => kernel_rfl
          case hf8_2 => kernel_rfl
          case hr8_2 => kernel_rfl
          case hQ8_2 => exact fun _ _ _ h => h
          case hy8_2 => exact Or.inl ⟨by rfl, fun w hSw => by have q0 := cell_keep p4 hSw; have q1 := cell_keep m0 hSw; have q2 := cell_keep m1 hSw; have q3 := cell_keep m2 hSw; have q4 := cell_keep n0 hSw; have q5 := cell_keep n1 hSw; have q6 := cell_keep n2 hSw; have q7 := cell_keep x0 hSw; have q8 := cell_keep x1 hSw; have q9 := cell_keep x2 hSw; go_simp <;> (try with_reducible rfl)⟩
          simp only [Act.put, List.setIfInBounds_toArray, List.set_cons_zero, List.set_cons_succ]
          refine' wpAnyH_take (i := 9) ?hi9_2 ?hs9_2 ?hf9_2 ?hr9_2 ?hQ9_2 ?hy9_2 (by assumption) ?rest9_2
          case hi9_2 => simp only [List.getElem?_toArray, List.getElem?_cons_succ, List.getElem?_cons_zero] <;> rfl
          case hs9_2 => kernel_rfl
          case hf9_2 => kernel_rfl
          case hr9_2 => kernel_rfl
          case hQ9_2 => exact fun _ _ _ h => h
          case hy9_2 => exact Or.inl ⟨by rfl, fun w hSw => by have q0 := cell_keep p4 hSw; have q1 := cell_keep m0 hSw; have q2 := cell_keep m1 hSw; have q3 := cell_keep m2 hSw; have q4 := cell_keep n0 hSw; have q5 := cell_keep n1 hSw; have q6 := cell_keep n2 hSw; have q7 := cell_keep x0 hSw; have q8 := cell_keep x1 hSw; have q9 := cell_keep x2 hSw; go_simp <;> (try with_reducible rfl)⟩
          simp only [Act.put, List.setIfInBounds_toArray, List.set_cons_zero, List.set_cons_succ]
          refine' wpAnyH_take (i := 11) ?hi11_2 ?hs11_2 ?hf11_2 ?hr11_2 ?hQ11_2 ?hy11_2 (by assumption) ?rest11_2
          case hi11_2 => simp only [List.getElem?_toArray, List.getElem?_cons_succ, List.getElem?_cons_zero] <;> rfl
          case hs11_2 => kernel_rfl
          case hf11_2 => kernel_rfl
          case hr11_2 => kernel_rfl
          case hQ11_2 => exact fun _ _ _ h => h
          case hy11_2 => exact Or.inl ⟨by rfl, fun w hSw => by have q0 := cell_keep p4 hSw; have q1 := cell_keep m0 hSw; have q2 := cell_keep m1 hSw; have q3 := cell_keep m2 hSw; have q4 := cell_keep n0 hSw; have q5 := cell_keep n1 hSw; have q6 := cell_keep n2 hSw; have q7 := cell_keep x0 hSw; have q8 := cell_keep x1 hSw; have q9 := cell_keep x2 hSw; go_simp <;> (try with_reducible rfl)⟩
          simp only [Act.put, List.setIfInBounds_toArray, List.set_cons_zero, List.set_cons_succ]
          refine' wpAnyH_take (i := 12) ?hi12_2 ?hs12_2 ?hf12_2 ?hr12_2 ?hQ12_2 ?hy12_2 (by assumption) ?rest12_2
          case hi12_2 => simp only [List.getElem?_toArray, List.getElem?_cons_succ, List.getElem?_cons_zero] <;> rfl
          case hs12_2 => kernel_rfl
          case hf12_2 => kernel_rfl
          case hr12_2 => kernel_rfl
          case hQ12_2 => exact fun _ _ _ h => h
          case hy12_2 => exact Or.inl ⟨by rfl, fun w hSw => by have q0 := cell_keep p4 hSw; have q1 := cell_keep m0 hSw; have q2 := cell_keep m1 hSw; have q3 := cell_keep m2 hSw; have q4 := cell_keep n0 hSw; have q5 := cell_keep n1 hSw; have q6 := cell_keep n2 hSw; have q7 := cell_keep x0 hSw; have q8 := cell_keep x1 hSw; have q9 := cell_keep x2 hSw; go_simp <;> (try with_reducible rfl)⟩
          simp only [Act.put, List.setIfInBounds_toArray, List.set_cons_zero, List.set_cons_succ]
          refine' wpAnyH_take (i := 13) ?hi13_2 ?hs13_2 ?hf13_2 ?hr13_2 ?hQ13_2 ?hy13_2 (by assumption) ?rest13_2
          case hi13_2 => simp only [List.getElem?_toArray, List.getElem?_cons_succ, List.getElem?_cons_zero] <;> rfl
          case hs13_2 => kernel_rfl
          case hf13_2 => kernel_rfl
          case hr13_2 => kernel_rfl
          case hQ13_2 => exact fun _ _ _ h => h
          case hy13_2 => exact Or.inl ⟨by rfl, fun w hSw => by have q0 := cell_keep p4 hSw; have q1 := cell_keep m0 hSw; have q2 := cell_keep m1 hSw; have q3 := cell_keep m2 hSw; have q4 := cell_keep n0 hSw; have q5 := cell_keep n1 hSw; have q6 := cell_keep n2 hSw; have q7 := cell_keep x0 hSw; have q8 := cell_keep x1 hSw; have q9 := cell_keep x2 hSw; go_simp <;> (try with_reducible rfl)⟩
          simp only [Act.put, List.setIfInBounds_toArray, List.set_cons_zero, List.set_cons_succ]
          refine' wpAnyH_take (i := 14) ?hi14_2 ?hs14_2 ?hf14_2 ?hr14_2 ?hQ14_2 ?hy14_2 (by assumption) ?rest14_2
          case hi14_2 => simp only [List.getElem?_toArray, List.getElem?_cons_succ, List.getElem?_cons_zero] <;> rfl
          case hs14_2 => kernel_rfl
          case hf14_2 => kernel_rfl
          case hr14_2 => kernel_rfl
          case hQ14_2 => exact fun _ _ _ h => h
          case hy14_2 => exact Or.inl ⟨by rfl, fun w hSw => by have q0 := cell_keep p4 hSw; have q1 := cell_keep m0 hSw; have q2 := cell_keep m1 hSw; have q3 := cell_keep m2 hSw; have q4 := cell_keep n0 hSw; have q5 := cell_keep n1 hSw; have q6 := cell_keep n2 hSw; have q7 := cell_keep x0 hSw; have q8 := cell_keep x1 hSw; have q9 := cell_keep x2 hSw; go_simp <;> (try with_reducible rfl)⟩
          simp only [Act.put, List.setIfInBounds_toArray, List.set_cons_zero, List.set_cons_succ]
          refine wpAnyH_ready (rs := [10]) (by kernel_rfl) (by simp) ?_
          refine AllReadyH.cons rfl (fun K hK => ?_) AllReadyH.nil
          go_simp
          with_reducible refine Calls.mono (HUd.out _) ?_
          rintro e w12 ⟨rfl, k12⟩
          go_wp2_with fail
          have h12 := Keeps.trans h11 k12
          refine hK.out _ _ h12 (fun hHeld => ?_)
          clear hK K
          refine wpAnyH_ready (rs := [15]) (by kernel_rfl) (by simp) ?_
          refine AllReadyH.cons rfl (fun K hK => ?_) AllReadyH.nil
          go_simp
          with_reducible refine Calls.mono (HUe.out _) ?_
          rintro e w13 ⟨rfl, k13⟩
          go_wp2_with fail
          have h13 := Keeps.trans h12 k13
          refine hK.out _ _ h13 (fun hHeld => ?_)
          clear hK K
          refine' wpAnyH_take (i := 16) ?hi16_2 ?hs16_2 ?hf16_2 ?hr16_2 ?hQ16_2 ?hy16_2 (by assumption) ?rest16_2
          case hi16_2 => simp only [List.getElem?_toArray, List.getElem?_cons_succ, List.getElem?_cons_zero] <;> rfl
          case hs16_2 => kernel_rfl
          case hf16_2 => kernel_rfl
          case hr16_2 => kernel_rfl
          case hQ16_2 => exact fun _ _ _ h => h
          case hy16_2 => exact Or.inl ⟨by rfl, fun w hSw => by go_simp <;> (try with_reducible rfl)⟩
          simp only [Act.put, List.setIfInBounds_toArray, List.set_cons_zero, List.set_cons_succ]
          refine' wpAnyH_take (i := 17) ?hi17_2 ?hs17_2 ?hf17_2 ?hr17_2 ?hQ17_2 ?hy17_2 (by assumption) ?rest17_2
          case hi17_2 => simp only [List.getElem?_toArray, List.getElem?_cons_succ, List.getElem?_cons_zero] <;> rfl
          case hs17_2 => kernel_rfl
          case hf17_2 => kernel_rfl
          case hr17_2 => kernel_rfl
          case hQ17_2 => exact fun _ _ _ h => h
          case hy17_2 => exact Or.inl ⟨by rfl, fun w hSw => by go_simp <;> (try with_reducible rfl)⟩
          simp only [Act.put, List.setIfInBounds_toArray, List.set_cons_zero, List.set_cons_succ]
          refine wpAnyH_done (by kernel_rfl) ?_ _
          refine NoPanic.normal ?_
          have K13 := Keeps.trans h10 h13
          go_wp2_with fail
          go_roundw
          case rel => exact ⟨j + 1, by omega, by go_num, by rw [HWe.out], Keeps.trans k8 K13⟩
          case measure => simp [intOf]; omega
        · obtain rfl : j = 3 := by omega
          rw [HD.out]
          go_wp2_with fail
          go_ret
          exact ⟨rfl, Keeps.trans K7 k8⟩

end Go.Proofs.Ytkjgfblkbjlohaa
