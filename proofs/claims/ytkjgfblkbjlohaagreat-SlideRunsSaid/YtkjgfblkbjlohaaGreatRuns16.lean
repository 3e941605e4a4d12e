/- The law SlideRuns. -/
import Derived.Test.YtkjgfblkbjlohaaGreatG37
import Derived.Test.YtkjgfblkbjlohaaGreatDoc3
import Derived.Test.YtkjgfblkbjlohaaGreatHeadsP
import Derived.Test.YtkjgfblkbjlohaaGreatG35
import Derived.Test.YtkjgfblkbjlohaaGreatSps16
import Derived.BigQuiet
set_option linter.all false

namespace Go.Proofs.YtkjgfblkbjlohaaGreat
open Go.RowKit

set_option maxRecDepth 100000 in
set_option maxHeartbeats 4000000 in
theorem runs_walk (w : World) (Ac : Option Addr) (m cc : Nat) (C : Nat → Cl) (Th : Option Addr) (nt tc : Nat) (T : Nat → Thg) (Rf : Option Addr) (nr rc : Nat) (R : Nat → Int) (Ro : Option Addr) (nz zc : Nat) (Z : Nat → Int) (s0 s1 s2 : Int) (h : WArg w Ac m cc C Th nt T Rf nr R Ro nz Z s0 s1 s2) :
    Calls Tryz.prog 3 #[.agg #[.slice Ac m cc, .slice Th nt tc, .slice Rf nr rc, .slice Ro nz zc, .int .u8 s0, .int .u8 s1, .int .u8 s2]] w fun e w' => e = .returned (.bool true) ∧ Keeps w w' := by
  have HMd := Lib.hid (show ∀ w', Keeps w w' → Calls Tryz.prog 4 #[.agg #[.slice Ac m cc, .slice Th nt tc, .slice Rf nr rc, .slice Ro nz zc, .int .u8 s0, .int .u8 s1, .int .u8 s2]] w' (MadeOut Ac m cc C nt T w') from fun w' k => made_any w' Ac m cc C Th nt tc T Rf nr rc R Ro nz zc Z s0 s1 s2 (h.keep k))
  have hzl := zero_life
  have HAw := Lib.hid awake_any
  have HArg := Lib.hid h
  clear h
  go_enter Tryz.func3, Tryz.ntmps3
  go_wp2_with fail
  have K1 : Keeps w (w.alloc (.cells #[.slice Ac m cc, .slice Th nt tc, .slice Rf nr rc, .slice Ro nz zc, .int .u8 s0, .int .u8 s1, .int .u8 s2] 28)) := (Touch.refl _ w).alloc _
  refine Calls.mono (HMd.out _ K1) ?_
  clear HMd
  rintro e w2 (⟨rfl, k2⟩ | ⟨ba, bw, f, bt, A, cap, gs, scp, av, sv, rv, L, G, ats, stay, roots, rfl, hM, hfull, ⟨hm, hnt60, hm0⟩, k2⟩)
  · have K2 := Keeps.trans K1 k2
    clear K1 k2
    go_wp2_with fail
    refine Calls.mono (HAw.out _) ?_
    rintro e w3 ⟨rfl, k3⟩
    go_wp2_with fail
    refine Calls.mono (HAw.out _) ?_
    rintro e w4 ⟨rfl, k4⟩
    go_wp2_with fail
    go_ret
    exact ⟨rfl, Keeps.trans (Keeps.trans (Touch.alloc K2 _) k3) k4⟩
  · have K2 := Keeps.trans K1 k2
    obtain ⟨aa, ac, hav⟩ := hM.at_.form
    obtain ⟨sa, sc, hsv⟩ := hM.stay_.form
    obtain ⟨ra, rc', hrv⟩ := hM.roots_.form
    subst hav
    subst hsv
    subst hrv
    have HM := Lib.hid hM
    have HFull := Lib.hid hfull
    have HNtM := Lib.hid (And.intro hnt60 hm0)
    clear hnt60 hm0
    have hal := hM.al
    have hsl := hM.sl
    have hrl := hM.rl
    have z2 := K2.size
    have hlow := hM.low
    have hgs := hM.gs
    have hbl := hM.st.ar.lt1
    have hbwl := hM.st.ar.lt2
    simp only [World.size_alloc] at hlow hgs
    clear K1 k2 hM hfull
    unfold lifeV
    go_wp2_with fail
    refine Calls.mono (HAw.out _) ?_
    rintro e w3 ⟨rfl, k3⟩
    have k23 : Keeps w2 w3 := Keeps.trans ((Touch.refl _ w2).alloc _) k3
    have B3 : BL w3 w2.heap.size 36 [.pointer (some ⟨ba, 0, none⟩), .pointer (some ⟨bt, 0, none⟩), .pointer (some ⟨ba, 0, none⟩), .pointer (some ⟨bt, 0, none⟩), .slice (some ⟨gs, 0, none⟩) 3 scp, .slice aa ats.length ac, .slice sa stay.length sc, .slice ra roots.length rc', .slice Ac m cc] := (BL.new1 w2 36 _ [.pointer (some ⟨ba, 0, none⟩), .pointer (some ⟨bt, 0, none⟩), .pointer (some ⟨ba, 0, none⟩), .pointer (some ⟨bt, 0, none⟩), .slice (some ⟨gs, 0, none⟩) 3 scp, .slice aa ats.length ac, .slice sa stay.length sc, .slice ra roots.length rc', .slice Ac m cc] _ rfl rfl).keep k3
    have HM3 := Lib.hid (HM.out.keep k23)
    have K3 := Keeps.trans K2 k23
    have z3 := k23.size
    have hxl := B3.lt
    clear k3 K2 HM
    have c0 := B3.c 0 _ rfl
    have c8 := B3.c 8 _ rfl
    have hst := HM3.out.is.stays
    have hC := HM3.out.st.tb.ok
    have hI := HM3.out.inv
    have HLs := Lib.hid (show Calls Tryz.prog 6 #[.pointer (some ⟨w2.heap.size, 0, none⟩)] w3 fun e w' => ∃ pa wb wcp, e = .returned (.agg #[.pointer (some ⟨pa, 0, none⟩), .slice Ac m cc]) ∧ RSt w' pa 500 f (some ⟨wb, 0, none⟩) wcp Ac m C ∧ OwnInts w' w3.heap.size (.slice (some ⟨wb, 0, none⟩) 500 wcp) ((List.range 500).map f) ∧ (w3.heap.size ≤ pa ∧ pa < w'.heap.size) ∧ wb ≠ pa ∧ Keeps w3 w' from
      lstore2 ba bw f w3 HM3.out.st.ar w2.heap.size C Ac m cc c0 c8 (HArg.out.cls.keep K3) hm hC)
    have HRun := Lib.hid (show ∀ w', Keeps w3 w' → Calls Tryz.prog 7 #[.pointer (some ⟨ba, 0, none⟩), .pointer (some ⟨bt, 0, none⟩), .slice (some ⟨gs, 0, none⟩) 3 scp, .slice sa stay.length sc, .slice ra roots.length rc'] w' (RunYes ba bw 500 f bt A m cap C L 3 (gt0 stay) stay.length (gt0 roots) roots.length w') from fun w' kk =>
      run_own (HM3.out.keep kk).st hI (HM3.out.keep kk).row hst (HM3.out.keep kk).stay_ HM3.out.svb (by omega) (HM3.out.keep kk).roots_ HM3.out.rvb (by omega) HM3.out.is.roots scp)
    have HSm0 := Lib.hid (doc_same hC hI (by omega) hst)
    have HW := Lib.hid (hst.well hC hI (by omega))
    have HFe := Lib.hid (show ∀ j, (slidNow 500 m f C L stay j).f = (L j).f ∧ (slidNow 500 m f C L stay j).e = (L j).e from fun j => sts_fe (L := L) (n := 3) (Z := zOf (atT 500 f m C) (gt0 stay)) stay.length j)
    have HRise := Lib.hid hI.rise
    have HEnd := Lib.hid hI.ends
    have HIv := Lib.hid hI
    have HSt := Lib.hid hst
    have hbw3 : bw < w3.heap.size := by omega
    clear hst hC hI c0 c8
    go_wp2_with fail
    refine Calls.mono HLs.out ?_
    clear HLs
    rintro e w4 ⟨pa, wb, wcp, rfl, hrs, hwo, ⟨hpa0, hpa1⟩, hwp, k4⟩
    obtain ⟨hx1_, hx2_, hwb0, hwb1, hib⟩ := hwo.ib
    clear hx1_ hx2_
    have HIb := Lib.hid (hib.congr (fun j hj => (map_range_getD f 500 j hj).symm))
    have HRs := Lib.hid hrs
    have z4 := k4.size
    clear hrs hwo hib
    have k5 : Keeps w4 (w4.alloc (.cells #[.pointer (some ⟨pa, 0, none⟩), .slice Ac m cc] 42)) := (Touch.refl _ w4).alloc _
    have B4 := (B3.keep k4).keep k5
    have S4 : BL (w4.alloc (.cells #[.pointer (some ⟨pa, 0, none⟩), .slice Ac m cc] 42)) w4.heap.size 42 [.pointer (some ⟨pa, 0, none⟩), .slice Ac m cc] := BL.new1 _ _ _ [.pointer (some ⟨pa, 0, none⟩), .slice Ac m cc] _ rfl rfl
    have z5 : (w4.alloc (.cells #[.pointer (some ⟨pa, 0, none⟩), .slice Ac m cc] 42)).heap.size = w4.heap.size + 1 := by simp
    have p0 := (B3.keep k4).c 0 _ rfl
    have p1 := (B3.keep k4).c 1 _ rfl
    have p4 := (B3.keep k4).c 4 _ rfl
    have p6 := (B3.keep k4).c 6 _ rfl
    have p7 := (B3.keep k4).c 7 _ rfl
    have hx4 : w2.heap.size < w4.heap.size := by omega
    go_wp2_with fail
    refine Calls.mono (HRun.out _ (Keeps.trans k4 k5)) ?_
    clear HRun
    rintro e w6 ⟨v6, ad, cp, rfl, hown, hnow, hst6, o6⟩
    have k45 := Keeps.trans k4 k5
    have B6 := B4.touch o6 (show ¬ w2.heap.size = bw by omega)
    have S6 := S4.touch o6 (show ¬ w4.heap.size = bw by omega)
    have o36 : Only bw w3 w6 := Touch.trans (Touch.only k45) o6 (fun x hx _ => hx)
    have K6 := K3.new o36 (by omega)
    have z6 := o6.size
    obtain ⟨va6, vc6, hv6⟩ := hown.form
    subst hv6
    have hol : ((List.range roots.length).map fun i => (toM (atT 500 f m C) L 3 (gt0 stay) stay.length (gt0 roots i)).getD 0).length = roots.length := by simp
    have ho1 := hown.rd.1
    have hlt6 := hown.lt
    rw [hol] at ho1
    rw [hol]
    have HO6 := Lib.hid (ho1.congr (g := intF .i64 fun i => (toM (atT 500 f m C) L 3 (gt0 stay) stay.length (gt0 roots i)).getD 0) (fun j hj => by
      show Value.int _ (List.getD _ j 0) = Value.int _ _
      rw [map_range_getD _ _ _ hj]))
    have HOb := Lib.hid (show ∀ b off, va6 = some ⟨b, off, none⟩ → (w4.heap.size + 1 ≤ b ∧ b < w6.heap.size) from fun b off e => by
      subst e
      have := hlt6 b (by rw [hol]; rfl)
      omega)
    have HNow := Lib.hid (show Rd w6 ad (3 * 3) (spF (slidNow 500 m f C L stay)) from hnow.rd)
    have HNb := Lib.hid (show ∀ b off, ad = some ⟨b, off, none⟩ → w4.heap.size + 1 ≤ b ∧ b < w6.heap.size from fun b off e => by
      obtain ⟨g, cap', ff, e2, q1, q2, _⟩ := hnow (by omega)
      rw [e] at e2
      simp only [Option.some.injEq, Addr.mk.injEq, and_true] at e2
      omega)
    have hst6' : St w6 ba bw 500 (slidF 500 m f C L stay) bt A m cap C := hst6
    have HSt6 := Lib.hid hst6'
    have hrs6 : RSt w6 pa 500 f (some ⟨wb, 0, none⟩) wcp Ac m C := ⟨cell_only (HRs.out.keep k5).ptr o6 (show pa ≠ bw by omega), (HRs.out.keep k5).row.keepS o6 (fun b off e => by
      simp only [Option.some.injEq, Addr.mk.injEq, and_true] at e
      obtain ⟨rfl, _⟩ := e
      intro h; omega), HArg.out.cls.keep K6, hm, HRs.out.ok, HRs.out.sz, HRs.out.cap⟩
    have HRs6 := Lib.hid hrs6
    have HIb6 := Lib.hid ((HIb.out.keep k5).touch o6 (show ¬ wb = bw by omega))
    have hrow6 := (HM3.out.row.at_touch o36 hgs.2 o36.size)
    have hsty6 := HM3.out.stay_.touch o36 (fun kk e h => HM3.out.svb kk e h)
    have hrot6 := HM3.out.roots_.touch o36 (fun kk e h => HM3.out.rvb kk e h)
    have hglt : gs < w3.heap.size := by
      obtain ⟨g, e1, _, hlt, _⟩ := HM3.out.row.at_ (show 0 < 3 by omega)
      simp only [Option.some.injEq, Addr.mk.injEq, and_true] at e1
      omega
    have hsl3 := HM3.out.stay_.lt
    have hrl3 := HM3.out.roots_.lt
    have HSb3 := Lib.hid (show ∀ b off, sa = some ⟨b, off, none⟩ → b < w3.heap.size from fun b off e => by subst e; exact (hsl3 b rfl).2)
    have HRb3 := Lib.hid (show ∀ b off, ra = some ⟨b, off, none⟩ → b < w3.heap.size from fun b off e => by subst e; exact (hrl3 b rfl).2)
    have HLi := Lib.hid (show ∀ w', Keeps w6 w' → Calls Tryz.prog 9 #[.slice (some ⟨gs, 0, none⟩) 3 scp] w' fun e w2 => ∃ la lc, e = .returned (.slice la 3 lc) ∧ Rd w2 la (3 * 3) (spF L) ∧ Keeps w' w2 from fun w' kk => by
      refine Calls.mono (list_any (some ⟨gs, 0, none⟩) 3 scp L w' (hrow6.rd.keep kk) (by omega)) ?_
      rintro e w2 ⟨v, rfl, ho, k2⟩
      obtain ⟨la, lc, hv⟩ := ho.form
      subst hv
      exact ⟨la, lc, rfl, ho.rd.1, k2⟩)
    have HDoc := Lib.hid (show ∀ w' la lc, Keeps w6 w' → Rd w' la (3 * 3) (spF L) → Calls Tryz.prog 8 #[.agg #[.pointer (some ⟨pa, 0, none⟩), .slice Ac m cc], .slice la 3 lc, .slice sa stay.length sc, .slice ra roots.length rc'] w' (DocOut wb wcp m f C L stay roots w') from fun w' la lc kk hla => by
      have zz := kk.size
      exact docrun_any w' pa wb wcp f Ac m cc C (HRs6.out.keep kk) (HIb6.out.keep kk) (fun e => hwp e.symm) (by omega) L G ats stay roots HIv.out HSt.out HM3.out.is.roots la lc hla sa sc (hsty6.rd.1.keep kk) (fun b off e => by have := HSb3.out b off e; omega) (by omega) ra rc' (hrot6.rd.1.keep kk) (fun b off e => by have := HRb3.out b off e; omega) (by omega))
    have p4 := B6.c 4 _ rfl
    have p6 := B6.c 6 _ rfl
    have p7 := B6.c 7 _ rfl
    have s0 := S6.c 0 _ rfl
    have s1 := S6.c 1 _ rfl
    have nXW : ¬ w2.heap.size = wb := by omega
    have nSW : ¬ w4.heap.size = wb := by omega
    clear hown hnow hst6 ho1 hlt6 hol hst6' hrs6 hrow6 hsty6 hrot6 hsl3 hrl3 p0 p1 B4 S4 k45
    go_wp2_with fail
    refine wp_region_noPanic ?_
    refine wp_region_held_drew (S := (fun w' => Only wb w6 w')) (by kernel_rfl) (Only.refl _ w6).drew (fun hHeld => ?_)
    refine' wpAnyH_take (i := 0) ?hi0_1 ?hs0_1 ?hf0_1 ?hr0_1 ?hQ0_1 ?hy0_1 (by assumption) ?rest0_1
    case hi0_1 => simp only [List.getElem?_toArray, List.getElem?_cons_zero] <;> rfl
    case hs0_1 => kernel_rfl
    case hf0_1 => kernel_rfl
    case hr0_1 => kernel_rfl
    case hQ0_1 => exact fun _ _ _ h => h
    case hy0_1 => exact Or.inl ⟨by rfl, fun w hSw => by have q0 := cell_only p4 hSw nXW; have q1 := cell_only p6 hSw nXW; have q2 := cell_only p7 hSw nXW; have q3 := cell_only s0 hSw nSW; have q4 := cell_only s1 hSw nSW; go_simp <;> (try with_reducible rfl)⟩
    simp only [Act.put, List.setIfInBounds_toArray, List.set_cons_zero, List.set_cons_succ]
    refine' wpAnyH_take (i := 1) ?hi1_1 ?hs1_1 ?hf1_1 ?hr1_1 ?hQ1_1 ?hy1_1 (by assumption) ?rest1_1
    case hi1_1 => simp only [List.getElem?_toArray, List.getElem?_cons_succ, List.getElem?_cons_zero] <;> rfl
    case hs1_1 => kernel_rfl
    case hf1_1 => kernel_rfl
    case hr1_1 => kernel_rfl
    case hQ1_1 => exact fun _ _ _ h => h
    case hy1_1 => exact Or.inl ⟨by rfl, fun w hSw => by have q0 := cell_only p4 hSw nXW; have q1 := cell_only p6 hSw nXW; have q2 := cell_only p7 hSw nXW; have q3 := cell_only s0 hSw nSW; have q4 := cell_only s1 hSw nSW; go_simp <;> (try with_reducible rfl)⟩
    simp only [Act.put, List.setIfInBounds_toArray, List.set_cons_zero, List.set_cons_succ]
    refine' wpAnyH_take (i := 2) ?hi2_1 ?hs2_1 ?hf2_1 ?hr2_1 ?hQ2_1 ?hy2_1 (by assumption) ?rest2_1
    case hi2_1 => simp only [List.getElem?_toArray, List.getElem?_cons_succ, List.getElem?_cons_zero] <;> rfl
    case hs2_1 => kernel_rfl
    case hf2_1 => kernel_rfl
    case hr2_1 => kernel_rfl
    case hQ2_1 => exact fun _ _ _ h => h
    case hy2_1 => exact Or.inl ⟨by rfl, fun w hSw => by have q0 := cell_only p4 hSw nXW; have q1 := cell_only p6 hSw nXW; have q2 := cell_only p7 hSw nXW; have q3 := cell_only s0 hSw nSW; have q4 := cell_only s1 hSw nSW; go_simp <;> (try with_reducible rfl)⟩
    simp only [Act.put, List.setIfInBounds_toArray, List.set_cons_zero, List.set_cons_succ]
    refine' wpAnyH_take (i := 4) ?hi4_1 ?hs4_1 ?hf4_1 ?hr4_1 ?hQ4_1 ?hy4_1 (by assumption) ?rest4_1
    case hi4_1 => simp only [List.getElem?_toArray, List.getElem?_cons_succ, List.getElem?_cons_zero] <;> rfl
    case hs4_1 => kernel_rfl
    case hf4_1 => kernel_rfl
    case hr4_1 => kernel_rfl
    case hQ4_1 => exact fun _ _ _ h => h
    case hy4_1 => exact Or.inl ⟨by rfl, fun w hSw => by have q0 := cell_only p4 hSw nXW; have q1 := cell_only p6 hSw nXW; have q2 := cell_only p7 hSw nXW; have q3 := cell_only s0 hSw nSW; have q4 := cell_only s1 hSw nSW; go_simp <;> (try with_reducible rfl)⟩
    simp only [Act.put, List.setIfInBounds_toArray, List.set_cons_zero, List.set_cons_succ]
    refine' wpAnyH_take (i := 5) ?hi5_1 ?hs5_1 ?hf5_1 ?hr5_1 ?hQ5_1 ?hy5_1 (by assumption) ?rest5_1
    case hi5_1 => simp only [List.getElem?_toArray, List.getElem?_cons_succ, List.getElem?_cons_zero] <;> rfl
    case hs5_1 => kernel_rfl
    case hf5_1 => kernel_rfl
    case hr5_1 => kernel_rfl
    case hQ5_1 => exact fun _ _ _ h => h
    case hy5_1 => exact Or.inl ⟨by rfl, fun w hSw => by have q0 := cell_only p4 hSw nXW; have q1 := cell_only p6 hSw nXW; have q2 := cell_only p7 hSw nXW; have q3 := cell_only s0 hSw nSW; have q4 := cell_only s1 hSw nSW; go_simp <;> (try with_reducible rfl)⟩
    simp only [Act.put, List.setIfInBounds_toArray, List.set_cons_zero, List.set_cons_succ]
    refine' wpAnyH_take (i := 6) ?hi6_1 ?hs6_1 ?hf6_1 ?hr6_1 ?hQ6_1 ?hy6_1 (by assumption) ?rest6_1
    case hi6_1 => simp only [List.getElem?_toArray, List.getElem?_cons_succ, List.getElem?_cons_zero] <;> rfl
    case hs6_1 => kernel_rfl
    case hf6_1 => kernel_rfl
    case hr6_1 => kernel_rfl
    case hQ6_1 => exact fun _ _ _ h => h
    case hy6_1 => exact Or.inl ⟨by rfl, fun w hSw => by have q0 := cell_only p4 hSw nXW; have q1 := cell_only p6 hSw nXW; have q2 := cell_only p7 hSw nXW; have q3 := cell_only s0 hSw nSW; have q4 := cell_only s1 hSw nSW; go_simp <;> (try with_reducible rfl)⟩
    simp only [Act.put, List.setIfInBounds_toArray, List.set_cons_zero, List.set_cons_succ]
    refine' wpAnyH_take (i := 7) ?hi7_1 ?hs7_1 ?hf7_1 ?hr7_1 ?hQ7_1 ?hy7_1 (by assumption) ?rest7_1
    case hi7_1 => simp only [List.getElem?_toArray, List.getElem?_cons_succ, List.getElem?_cons_zero] <;> rfl
    case hs7_1 => kernel_rfl
    case hf7_1 => kernel_rfl
    case hr7_1 => kernel_rfl
    case hQ7_1 => exact fun _ _ _ h => h
    case hy7_1 => exact Or.inl ⟨by rfl, fun w hSw => by have q0 := cell_only p4 hSw nXW; have q1 := cell_only p6 hSw nXW; have q2 := cell_only p7 hSw nXW; have q3 := cell_only s0 hSw nSW; have q4 := cell_only s1 hSw nSW; go_simp <;> (try with_reducible rfl)⟩
    simp only [Act.put, List.setIfInBounds_toArray, List.set_cons_zero, List.set_cons_succ]
    refine wpAnyH_ready (rs := [3]) (by kernel_rfl) (by simp) ?_
    refine AllReadyH.cons rfl (fun K hK => ?_) AllReadyH.nil
    go_simp
    with_reducible refine Calls.mono (HLi.out _ (Touch.drew (Touch.refl (fun _ => False) w6))) ?_
    rintro e w7 ⟨la, lc, rfl, hla, k7_⟩
    have k7 : Keeps w6 w7 := Keeps.trans (Touch.drew (Touch.refl (fun _ => False) w6)) k7_
    clear k7_
    go_wp2_with fail
    have h7 : Only wb w6 w7 := Touch.only k7
    have HLa := Lib.hid hla
    clear hla
    refine hK.out _ _ h7 (fun hHeld => ?_)
    clear hK K
    refine wpAnyH_ready (rs := [8]) (by kernel_rfl) (by simp) ?_
    refine AllReadyH.cons rfl (fun K hK => ?_) AllReadyH.nil
    go_simp
    with_reducible refine Calls.mono (HDoc.out _ _ _ k7 HLa.out) ?_
    rintro e w8 ⟨oa, oc, ad2, cp2, rfl, hro, hrs, hib, o8⟩
    go_wp2_with fail
    have h8 : Only wb w6 w8 := Touch.trans h7 o8 (fun x hx _ => hx)
    refine hK.out _ _ h8 (fun hHeld => ?_)
    clear hK K
    refine' wpAnyH_take (i := 9) ?hi9_1 ?hs9_1 ?hf9_1 ?hr9_1 ?hQ9_1 ?hy9_1 (by assumption) ?rest9_1
    case hi9_1 => simp only [List.getElem?_toArray, List.getElem?_cons_succ, List.getElem?_cons_zero] <;> rfl
    case hs9_1 => kernel_rfl
    case hf9_1 => kernel_rfl
    case hr9_1 => kernel_rfl
    case hQ9_1 => exact fun _ _ _ h => h
    case hy9_1 => exact Or.inl ⟨by rfl, fun w hSw => by go_simp <;> (try with_reducible rfl)⟩
    simp only [Act.put, List.setIfInBounds_toArray, List.set_cons_zero, List.set_cons_succ]
    refine' wpAnyH_take (i := 10) ?hi10_1 ?hs10_1 ?hf10_1 ?hr10_1 ?hQ10_1 ?hy10_1 (by assumption) ?rest10_1
    case hi10_1 => simp only [List.getElem?_toArray, List.getElem?_cons_succ, List.getElem?_cons_zero] <;> rfl
    case hs10_1 => kernel_rfl
    case hf10_1 => kernel_rfl
    case hr10_1 => kernel_rfl
    case hQ10_1 => exact fun _ _ _ h => h
    case hy10_1 => exact Or.inl ⟨by rfl, fun w hSw => by go_simp <;> (try with_reducible rfl)⟩
    simp only [Act.put, List.setIfInBounds_toArray, List.set_cons_zero, List.set_cons_succ]
    refine' wpAnyH_take (i := 11) ?hi11_1 ?hs11_1 ?hf11_1 ?hr11_1 ?hQ11_1 ?hy11_1 (by assumption) ?rest11_1
    case hi11_1 => simp only [List.getElem?_toArray, List.getElem?_cons_succ, List.getElem?_cons_zero] <;> rfl
    case hs11_1 => kernel_rfl
    case hf11_1 => kernel_rfl
    case hr11_1 => kernel_rfl
    case hQ11_1 => exact fun _ _ _ h => h
    case hy11_1 => exact Or.inl ⟨by rfl, fun w hSw => by go_simp <;> (try with_reducible rfl)⟩
    simp only [Act.put, List.setIfInBounds_toArray, List.set_cons_zero, List.set_cons_succ]
    refine' wpAnyH_take (i := 12) ?hi12_1 ?hs12_1 ?hf12_1 ?hr12_1 ?hQ12_1 ?hy12_1 (by assumption) ?rest12_1
    case hi12_1 => simp only [List.getElem?_toArray, List.getElem?_cons_succ, List.getElem?_cons_zero] <;> rfl
    case hs12_1 => kernel_rfl
    case hf12_1 => kernel_rfl
    case hr12_1 => kernel_rfl
    case hQ12_1 => exact fun _ _ _ h => h
    case hy12_1 => exact Or.inl ⟨by rfl, fun w hSw => by go_simp <;> (try with_reducible rfl)⟩
    simp only [Act.put, List.setIfInBounds_toArray, List.set_cons_zero, List.set_cons_succ]
    refine' wpAnyH_take (i := 13) ?hi13_1 ?hs13_1 ?hf13_1 ?hr13_1 ?hQ13_1 ?hy13_1 (by assumption) ?rest13_1
    case hi13_1 => simp only [List.getElem?_toArray, List.getElem?_cons_succ, List.getElem?_cons_zero] <;> rfl
    case hs13_1 => kernel_rfl
    case hf13_1 => kernel_rfl
    case hr13_1 => kernel_rfl
    case hQ13_1 => exact fun _ _ _ h => h
    case hy13_1 => exact Or.inl ⟨by rfl, fun w hSw => by go_simp <;> (try with_reducible rfl)⟩
    simp only [Act.put, List.setIfInBounds_toArray, List.set_cons_zero, List.set_cons_succ]
    refine' wpAnyH_take (i := 14) ?hi14_1 ?hs14_1 ?hf14_1 ?hr14_1 ?hQ14_1 ?hy14_1 (by assumption) ?rest14_1
    case hi14_1 => simp only [List.getElem?_toArray, List.getElem?_cons_succ, List.getElem?_cons_zero] <;> rfl
    case hs14_1 => kernel_rfl
    case hf14_1 => kernel_rfl
    case hr14_1 => kernel_rfl
    case hQ14_1 => exact fun _ _ _ h => h
    case hy14_1 => exact Or.inl ⟨by rfl, fun w hSw => by go_simp <;> (try with_reducible rfl)⟩
    simp only [Act.put, List.setIfInBounds_toArray, List.set_cons_zero, List.set_cons_succ]
    refine' wpAnyH_take (i := 15) ?hi15_1 ?hs15_1 ?hf15_1 ?hr15_1 ?hQ15_1 ?hy15_1 (by assumption) ?rest15_1
    case hi15_1 => simp only [List.getElem?_toArray, List.getElem?_cons_succ, List.getElem?_cons_zero] <;> rfl
    case hs15_1 => kernel_rfl
    case hf15_1 => kernel_rfl
    case hr15_1 => kernel_rfl
    case hQ15_1 => exact fun _ _ _ h => h
    case hy15_1 => exact Or.inl ⟨by rfl, fun w hSw => by go_simp <;> (try with_reducible rfl)⟩
    simp only [Act.put, List.setIfInBounds_toArray, List.set_cons_zero, List.set_cons_succ]
    refine wpAnyH_done (by kernel_rfl) ?_ _
    refine NoPanic.normal ?_
    have O8 : Only wb w6 w8 := h8
    have K8 := K6.new O8 (by omega)
    have z8 := O8.size
    have B8 := B6.touch O8 nXW
    have S8 := S6.touch O8 nSW
    have HO8 := Lib.hid (HO6.out.keepS O8 (fun b off e h => by have := HOb.out b off e; omega))
    have HN8 := Lib.hid (HNow.out.keepS O8 (fun b off e h => by have := HNb.out b off e; omega))
    have HSt8 := Lib.hid (HM3.out.st.fresh HSt6.out O8 (fun kk (e : kk = wb) => by omega))
    have pt8 := cell_only HRs6.out.ptr O8 (show ¬ pa = wb from fun e => hwp e.symm)
    have HI8 := Lib.hid hib
    have HSa := Lib.hid (same_any va6 oa roots.length roots.length vc6 oc _ _ w8 HO8.out hro (by omega) (by omega))
    rw [sameB_true (fun i hi => rfl)] at HSa
    have HSp := Lib.hid (show ∀ w', Keeps w8 w' → Calls Tryz.prog 11 #[.slice ad 3 cp, .slice ad2 3 cp2] w' fun e w2 => e = .returned (.bool true) ∧ Keeps w' w2 from fun w' kk => sps_any ad ad2 3 cp cp2 _ _ w' (HN8.out.keep kk) (hrs.keep kk) (by omega) (fun i hi => rfl))
    obtain ⟨S1, hS1⟩ : ∃ S1, slidNow 500 m f C L stay = S1 := ⟨_, rfl⟩
    obtain ⟨F1, hF1⟩ : ∃ F1, slidF 500 m f C L stay = F1 := ⟨_, rfl⟩
    obtain ⟨D1, hD1⟩ : ∃ D1, docF 500 m f C L stay = D1 := ⟨_, rfl⟩
    have HRt := Lib.hid (show ∀ j, j < 3 → rightB (slidNow 500 m f C L stay j) = true from fun j hj => HW.out.right hj)
    rw [hS1] at HN8 HFe HSm0 HRt
    rw [hF1] at HSt8 HSm0
    rw [hD1] at HI8 HSm0
    clear hro hrs hib h7 h8 o8 k7 HO6 HNow HSt6 HRs6 HIb6 HLi HDoc HLa hS1 hF1 hD1 p4 p6 p7 s0 s1 HRs HIb HO8 HW HIv HSt B6 S6
    go_wp2_with fail
    refine Calls.mono HSa.out ?_
    clear HSa
    rintro e w9 ⟨rfl, k9⟩
    go_wp2_with fail
    refine Calls.mono (HSp.out _ k9) ?_
    clear HSp
    rintro e w10 ⟨rfl, k10⟩
    have K810 := Keeps.trans k9 k10
    have B10 := B8.keep K810
    have S10 := S8.keep K810
    have HN10 := Lib.hid (HN8.out.keep K810)
    have HI10 := Lib.hid (HI8.out.keep K810)
    have HSt10 := Lib.hid (HSt8.out.keep K810)
    have pt10 := cell_keep pt8 K810
    have K10 := Keeps.trans K8 K810
    clear HN8 HI8 HSt8 B8 S8 pt8
    go_wp2_with fail
    go_loopw [77] (fun i wr => ∃ j : Nat, j ≤ 3 ∧ i = .int .i64 j ∧ Keeps w10 wr) (fun i _ => 3 - (intOf i).toNat)
    case atStart => exact ⟨0, by omega, rfl, Touch.refl _ _⟩
    case round =>
    obtain ⟨w11, rfl⟩ : ∃ w11 : World, w11 = wr := ⟨_, rfl⟩
    obtain ⟨j, hj, rfl, k11⟩ := hrel
    by_cases hlt : j < 3
    · have hltI : (j : Int) < 3 := by omega
      obtain ⟨b, o, rfl, e0, e1, e2⟩ := (HN10.out.keep k11).sp hlt
      have hrt := (rightB_iff _).1 (HRt.out j hlt)
      have hfe := HFe.out j
      have hen := HEnd.out j hlt
      have hsm := HSm0.out j hlt
      obtain ⟨fN, hfN⟩ : ∃ fN : Nat, (S1 j).f = fN := ⟨((S1 j).f).toNat, by omega⟩
      obtain ⟨tN, htN⟩ : ∃ tN : Nat, (S1 j).t = tN := ⟨((S1 j).t).toNat, by omega⟩
      obtain ⟨n, hn⟩ : ∃ n, tN - fN = n := ⟨_, rfl⟩
      have hUs := fun w' => used_any (S1 j) w' (HRt.out j hlt)
      unfold agg at hUs
      rw [hfN, htN] at hUs
      rw [hfN] at e0
      rw [htN] at e1
      rw [← hfe.1, hfN, htN] at hsm
      have hfl : fN ≤ tN ∧ tN ≤ 451 := by omega
      have hUe : ((tN : Int) - (fN : Int)) = (n : Int) := by omega
      rw [hUe] at hUs
      have HUs := Lib.hid hUs
      have hcap := HI10.out.le
      have hnb : fN + n ≤ 451 := by omega
      have HWd := Lib.hid (show ∀ w', Keeps w11 w' → Calls Tryz.prog 12 #[.pointer (some ⟨ba, 0, none⟩), .int .i64 (fN : Int), .int .i64 (n : Int)] w' fun e w2 => ∃ va vc, e = .returned (.tuple #[.slice va n vc, .int .i64 0]) ∧ Rd w2 va n (intF .i64 fun i => F1 (fN + i)) ∧ Keeps w' w2 from fun w' kk => by
        refine Calls.mono (words_yes ba bw 500 F1 w' (HSt10.out.keep (Keeps.trans k11 kk)).ar fN n (by omega) (by omega) (by omega)) ?_
        rintro e w2 ⟨v, rfl, ho, k2⟩
        obtain ⟨va, vc, hv⟩ := ho.form
        subst hv
        have hl : ((List.range (n : Int).toNat).map fun i => F1 ((fN : Int).toNat + i)).length = n := by simp
        have h1 := ho.rd.1
        rw [hl] at h1 ⊢
        refine ⟨va, vc, rfl, h1.congr (fun i hi => ?_), k2⟩
        show Value.int _ (List.getD _ i 0) = Value.int _ _
        rw [map_range_getD _ _ _ (by simpa using hi)]
        simp)
      have HFD := Lib.hid (show ∀ i, i < n → F1 (fN + i) = D1 (fN + i) from fun i hi => (hsm (fN + i) (by omega) (by omega)).symm)
      have p0 := (B10.keep k11).c 0 _ rfl
      have hne : ¬ wcp = fN := by omega
      have hlI : (fN : Int) ≤ tN := by omega
      have hlW : (tN : Int) ≤ wcp := by omega
      have hHn := Lib.hid hn
      have hsn : tN - fN = n := hn
      have HB11 := Lib.hid (B10.keep k11)
      have HS11 := Lib.hid (S10.keep k11)
      have pt11 := cell_keep pt10 k11
      have HI11 := Lib.hid (HI10.out.keep k11)
      clear hUs hsm hfN htN hfe hen hrt hn hsn hUe
      go_wp2_with fail
      refine wp_region_noPanic ?_
      refine wp_region_held_drew (S := (fun w' => Keeps w11 w')) (by kernel_rfl) (Touch.refl _ w11).drew (fun hHeld => ?_)
      refine' wpAnyH_take (i := 0) ?hi0_2 ?hs0_2 ?hf0_2 ?hr0_2 ?hQ0_2 ?hy0_2 (by assumption) ?rest0_2
      case hi0_2 => simp only [List.getElem?_toArray, List.getElem?_cons_zero] <;> rfl
      case hs0_2 => kernel_rfl
      case hf0_2 => kernel_rfl
      case hr0_2 => kernel_rfl
      case hQ0_2 => exact fun _ _ _ h => h
      case hy0_2 => exact Or.inl ⟨by rfl, fun w hSw => by have q0 := cell_keep p0 hSw; have q1 := cell_keep e0 hSw; have q2 := cell_keep e1 hSw; have q3 := cell_keep e2 hSw; go_simp <;> (try with_reducible rfl)⟩
      simp only [Act.put, List.setIfInBounds_toArray, List.set_cons_zero, List.set_cons_succ]
      refine' wpAnyH_take (i := 1) ?hi1_2 ?hs1_2 ?hf1_2 ?hr1_2 ?hQ1_2 ?hy1_2 (by assumption) ?rest1_2
      case hi1_2 => simp only [List.getElem?_toArray, List.getElem?_cons_succ, List.getElem?_cons_zero] <;> rfl
      case hs1_2 => kernel_rfl
      case hf1_2 => kernel_rfl
      case hr1_2 => kernel_rfl
      case hQ1_2 => exact fun _ _ _ h => h
      case hy1_2 => exact Or.inl ⟨by rfl, fun w hSw => by have q0 := cell_keep p0 hSw; have q1 := cell_keep e0 hSw; have q2 := cell_keep e1 hSw; have q3 := cell_keep e2 hSw; go_simp <;> (try with_reducible rfl)⟩
      simp only [Act.put, List.setIfInBounds_toArray, List.set_cons_zero, List.set_cons_succ]
      refine' wpAnyH_take (i := 2) ?hi2_2 ?hs2_2 ?hf2_2 ?hr2_2 ?hQ2_2 ?hy2_2 (by assumption) ?rest2_2
      case hi2_2 => simp only [List.getElem?_toArray, List.getElem?_cons_succ, List.getElem?_cons_zero] <;> rfl
      case hs2_2 => kernel_rfl
      case hf2_2 => kernel_rfl
      case hr2_2 => kernel_rfl
      case hQ2_2 => exact fun _ _ _ h => h
      case hy2_2 => exact Or.inl ⟨by rfl, fun w hSw => by have q0 := cell_keep p0 hSw; have q1 := cell_keep e0 hSw; have q2 := cell_keep e1 hSw; have q3 := cell_keep e2 hSw; go_simp <;> (try with_reducible rfl)⟩
      simp only [Act.put, List.setIfInBounds_toArray, List.set_cons_zero, List.set_cons_succ]
      refine' wpAnyH_take (i := 3) ?hi3_2 ?hs3_2 ?hf3_2 ?hr3_2 ?hQ3_2 ?hy3_2 (by assumption) ?rest3_2
      case hi3_2 => simp only [List.getElem?_toArray, List.getElem?_cons_succ, List.getElem?_cons_zero] <;> rfl
      case hs3_2 => kernel_rfl
      case hf3_2 => kernel_rfl
      case hr3_2 => kernel_rfl
      case hQ3_2 => exact fun _ _ _ h => h
      case hy3_2 => exact Or.inl ⟨by rfl, fun w hSw => by have q0 := cell_keep p0 hSw; have q1 := cell_keep e0 hSw; have q2 := cell_keep e1 hSw; have q3 := cell_keep e2 hSw; go_simp <;> (try with_reducible rfl)⟩
      simp only [Act.put, List.setIfInBounds_toArray, List.set_cons_zero, List.set_cons_succ]
      refine' wpAnyH_take (i := 4) ?hi4_2 ?hs4_2 ?hf4_2 ?hr4_2 ?hQ4_2 ?hy4_2 (by assumption) ?rest4_2
      case hi4_2 => simp only [List.getElem?_toArray, List.getElem?_cons_succ, List.getElem?_cons_zero] <;> rfl
      case hs4_2 => kernel_rfl
      case hf4_2 => kernel_rfl
      case hr4_2 => kernel_rfl
      case hQ4_2 => exact fun _ _ _ h => h
      case hy4_2 => exact Or.inl ⟨by rfl, fun w hSw => by have q0 := cell_keep p0 hSw; have q1 := cell_keep e0 hSw; have q2 := cell_keep e1 hSw; have q3 := cell_keep e2 hSw; go_simp <;> (try with_reducible rfl)⟩
      simp only [Act.put, List.setIfInBounds_toArray, List.set_cons_zero, List.set_cons_succ]
      refine' wpAnyH_take (i := 5) ?hi5_2 ?hs5_2 ?hf5_2 ?hr5_2 ?hQ5_2 ?hy5_2 (by assumption) ?rest5_2
      case hi5_2 => simp only [List.getElem?_toArray, List.getElem?_cons_succ, List.getElem?_cons_zero] <;> rfl
      case hs5_2 => kernel_rfl
      case hf5_2 => kernel_rfl
      case hr5_2 => kernel_rfl
      case hQ5_2 => exact fun _ _ _ h => h
      case hy5_2 => exact Or.inl ⟨by rfl, fun w hSw => by have q0 := cell_keep p0 hSw; have q1 := cell_keep e0 hSw; have q2 := cell_keep e1 hSw; have q3 := cell_keep e2 hSw; go_simp <;> (try with_reducible rfl)⟩
      simp only [Act.put, List.setIfInBounds_toArray, List.set_cons_zero, List.set_cons_succ]
      refine' wpAnyH_take (i := 6) ?hi6_2 ?hs6_2 ?hf6_2 ?hr6_2 ?hQ6_2 ?hy6_2 (by assumption) ?rest6_2
      case hi6_2 => simp only [List.getElem?_toArray, List.getElem?_cons_succ, List.getElem?_cons_zero] <;> rfl
      case hs6_2 => kernel_rfl
      case hf6_2 => kernel_rfl
      case hr6_2 => kernel_rfl
      case hQ6_2 => exact fun _ _ _ h => h
      case hy6_2 => exact Or.inl ⟨by rfl, fun w hSw => by have q0 := cell_keep p0 hSw; have q1 := cell_keep e0 hSw; have q2 := cell_keep e1 hSw; have q3 := cell_keep e2 hSw; go_simp <;> (try with_reducible rfl)⟩
      simp only [Act.put, List.setIfInBounds_toArray, List.set_cons_zero, List.set_cons_succ]
      refine' wpAnyH_take (i := 7) ?hi7_2 ?hs7_2 ?hf7_2 ?hr7_2 ?hQ7_2 ?hy7_2 (by assumption) ?rest7_2
      case hi7_2 => simp only [List.getElem?_toArray, List.getElem?_cons_succ, List.getElem?_cons_zero] <;> rfl
      case hs7_2 => kernel_rfl
      case hf7_2 => kernel_rfl
      case hr7_2 => kernel_rfl
      case hQ7_2 => exact fun _ _ _ h => h
      case hy7_2 => exact Or.inl ⟨by rfl, fun w hSw => by have q0 := cell_keep p0 hSw; have q1 := cell_keep e0 hSw; have q2 := cell_keep e1 hSw; have q3 := cell_keep e2 hSw; go_simp <;> (try with_reducible rfl)⟩
      simp only [Act.put, List.setIfInBounds_toArray, List.set_cons_zero, List.set_cons_succ]
      refine' wpAnyH_take (i := 8) ?hi8_2 ?hs8_2 ?hf8_2 ?hr8_2 ?hQ8_2 ?hy8_2 (by assumption) ?rest8_2
      case hi8_2 => simp only [List.getElem?_toArray, List.getElem?_cons_succ, List.getElem?_cons_zero] <;> rfl
      case hs8_2 => kernel_rfl
      case hf8_2 => kernel_rfl
      case hr8_2 => kernel_rfl
      case hQ8_2 => exact fun _ _ _ h => h
      case hy8_2 => exact Or.inl ⟨by rfl, fun w hSw => by have q0 := cell_keep p0 hSw; have q1 := cell_keep e0 hSw; have q2 := cell_keep e1 hSw; have q3 := cell_keep e2 hSw; go_simp <;> (try with_reducible rfl)⟩
      simp only [Act.put, List.setIfInBounds_toArray, List.set_cons_zero, List.set_cons_succ]
      refine' wpAnyH_take (i := 9) ?hi9_2 ?hs9_2 ?hf9_2 ?hr9_2 ?hQ9_2 ?hy9_2 (by assumption) ?rest9_2
      case hi9_2 => simp only [List.getElem?_toArray, List.getElem?_cons_succ, List.getElem?_cons_zero] <;> rfl
      case hs9_2 => kernel_rfl
      case hf9_2 => kernel_rfl
      case hr9_2 => kernel_rfl
      case hQ9_2 => exact fun _ _ _ h => h
      case hy9_2 => exact Or.inl ⟨by rfl, fun w hSw => by have q0 := cell_keep p0 hSw; have q1 := cell_keep e0 hSw; have q2 := cell_keep e1 hSw; have q3 := cell_keep e2 hSw; go_simp <;> (try with_reducible rfl)⟩
      simp only [Act.put, List.setIfInBounds_toArray, List.set_cons_zero, List.set_cons_succ]
      refine' wpAnyH_take (i := 10) ?hi10_2 ?hs10_2 ?hf10_2 ?hr10_2 ?hQ10_2 ?hy10_2 (by assumption) ?rest10_2
      case hi10_2 => simp only [List.getElem?_toArray, List.getElem?_cons_succ, List.getElem?_cons_zero] <;> rfl
      case hs10_2 => kernel_rfl
      case hf10_2 => kernel_rfl
      case hr10_2 => kernel_rfl
      case hQ10_2 => exact fun _ _ _ h => h
      case hy10_2 => exact Or.inl ⟨by rfl, fun w hSw => by have q0 := cell_keep p0 hSw; have q1 := cell_keep e0 hSw; have q2 := cell_keep e1 hSw; have q3 := cell_keep e2 hSw; go_simp <;> (try with_reducible rfl)⟩
      simp only [Act.put, List.setIfInBounds_toArray, List.set_cons_zero, List.set_cons_succ]
      refine wpAnyH_ready (rs := [11]) (by kernel_rfl) (by simp) ?_
      refine AllReadyH.cons rfl (fun K hK => ?_) AllReadyH.nil
      go_simp
      with_reducible refine Calls.mono (HUs.out _) ?_
      rintro e w12 ⟨rfl, k12⟩
      go_wp2_with fail
      have h12 := Keeps.trans hHeld k12
      refine hK.out _ _ h12 (fun hHeld => ?_)
      clear hK K
      refine wpAnyH_ready (rs := [12]) (by kernel_rfl) (by simp) ?_
      refine AllReadyH.cons rfl (fun K hK => ?_) AllReadyH.nil
      go_simp
      with_reducible refine Calls.mono (HWd.out _ h12) ?_
      rintro e w13 ⟨va, vc, rfl, hva, k13⟩
      go_wp2_with fail
      have h13 := Keeps.trans h12 k13
      refine hK.out _ _ h13 (fun hHeld => ?_)
      clear hK K
      refine' wpAnyH_take (i := 13) ?hi13_2 ?hs13_2 ?hf13_2 ?hr13_2 ?hQ13_2 ?hy13_2 (by assumption) ?rest13_2
      case hi13_2 => simp only [List.getElem?_toArray, List.getElem?_cons_succ, List.getElem?_cons_zero] <;> rfl
      case hs13_2 => kernel_rfl
      case hf13_2 => kernel_rfl
      case hr13_2 => kernel_rfl
      case hQ13_2 => exact fun _ _ _ h => h
      case hy13_2 => exact Or.inl ⟨by rfl, fun w hSw => by go_simp <;> (try with_reducible rfl)⟩
      simp only [Act.put, List.setIfInBounds_toArray, List.set_cons_zero, List.set_cons_succ]
      refine' wpAnyH_take (i := 14) ?hi14_2 ?hs14_2 ?hf14_2 ?hr14_2 ?hQ14_2 ?hy14_2 (by assumption) ?rest14_2
      case hi14_2 => simp only [List.getElem?_toArray, List.getElem?_cons_succ, List.getElem?_cons_zero] <;> rfl
      case hs14_2 => kernel_rfl
      case hf14_2 => kernel_rfl
      case hr14_2 => kernel_rfl
      case hQ14_2 => exact fun _ _ _ h => h
      case hy14_2 => exact Or.inl ⟨by rfl, fun w hSw => by go_simp <;> (try with_reducible rfl)⟩
      simp only [Act.put, List.setIfInBounds_toArray, List.set_cons_zero, List.set_cons_succ]
      refine' wpAnyH_take (i := 15) ?hi15_2 ?hs15_2 ?hf15_2 ?hr15_2 ?hQ15_2 ?hy15_2 (by assumption) ?rest15_2
      case hi15_2 => simp only [List.getElem?_toArray, List.getElem?_cons_succ, List.getElem?_cons_zero] <;> rfl
      case hs15_2 => kernel_rfl
      case hf15_2 => kernel_rfl
      case hr15_2 => kernel_rfl
      case hQ15_2 => exact fun _ _ _ h => h
      case hy15_2 => exact Or.inl ⟨by rfl, fun w hSw => by go_simp <;> (try with_reducible rfl)⟩
      simp only [Act.put, List.setIfInBounds_toArray, List.set_cons_zero, List.set_cons_succ]
      refine' wpAnyH_take (i := 16) ?hi16_2 ?hs16_2 ?hf16_2 ?hr16_2 ?hQ16_2 ?hy16_2 (by assumption) ?rest16_2
      case hi16_2 => simp only [List.getElem?_toArray, List.getElem?_cons_succ, List.getElem?_cons_zero] <;> rfl
      case hs16_2 => kernel_rfl
      case hf16_2 => kernel_rfl
      case hr16_2 => kernel_rfl
      case hQ16_2 => exact fun _ _ _ h => h
      case hy16_2 => exact Or.inl ⟨by rfl, fun w hSw => by go_simp <;> (try with_reducible rfl)⟩
      simp only [Act.put, List.setIfInBounds_toArray, List.set_cons_zero, List.set_cons_succ]
      refine' wpAnyH_take (i := 17) ?hi17_2 ?hs17_2 ?hf17_2 ?hr17_2 ?hQ17_2 ?hy17_2 (by assumption) ?rest17_2
      case hi17_2 => simp only [List.getElem?_toArray, List.getElem?_cons_succ, List.getElem?_cons_zero] <;> rfl
      case hs17_2 => kernel_rfl
      case hf17_2 => kernel_rfl
      case hr17_2 => kernel_rfl
      case hQ17_2 => exact fun _ _ _ h => h
      case hy17_2 => exact Or.inl ⟨by rfl, fun w hSw => by go_simp <;> (try with_reducible rfl)⟩
      simp only [Act.put, List.setIfInBounds_toArray, List.set_cons_zero, List.set_cons_succ]
      refine wpAnyH_done (by kernel_rfl) ?_ _
      refine NoPanic.normal ?_
      have e0 := cell_keep e0 h13
      have e1 := cell_keep e1 h13
      have s0 := (HS11.out.keep h13).c 0 _ rfl
      have pt := cell_keep pt11 h13
      have HSm := Lib.hid (show ∀ w', Keeps w13 w' → Calls Tryz.prog 10 #[.slice va n vc, .slice (some ⟨wb, fN, none⟩) (tN - fN) (wcp - fN)] w' fun e w2 => e = .returned (.bool true) ∧ Keeps w' w2 from fun w' kk => by
        rw [hHn.out]
        have h1 := rd_sub (((HI11.out.keep h13).keep kk).rd) fN n (by omega) hcap
        rw [if_neg hne, Nat.zero_add] at h1
        have hh := same_any va (some ⟨wb, fN, none⟩) n n vc (wcp - fN) _ _ w' (hva.keep kk) h1 (by omega) (by omega)
        rw [sameB_true (fun i hi => HFD.out i hi)] at hh
        exact hh)
      have HH := Lib.hid h13
      clear e2 p0 HUs HWd hva k12 k13 h12 pt11 h13 hcap hnb hfl pt10 z5 hpa0 hpa1 hwb0 hwb1 hglt k5 k10 k9 K810
      go_wp2_with fail
      refine wp_region_noPanic ?_
      refine wp_region_held_drew (S := (fun w' => Keeps w13 w')) (by kernel_rfl) (Touch.refl _ w13).drew (fun hHeld => ?_)
      refine' wpAnyH_take (i := 0) ?hi0_3 ?hs0_3 ?hf0_3 ?hr0_3 ?hQ0_3 ?hy0_3 (by assumption) ?rest0_3
      case hi0_3 => simp only [List.getElem?_toArray, List.getElem?_cons_zero] <;> rfl
      case hs0_3 => kernel_rfl
      case hf0_3 => kernel_rfl
      case hr0_3 => kernel_rfl
      case hQ0_3 => exact fun _ _ _ h => h
      case hy0_3 => exact Or.inl ⟨by rfl, fun w hSw => by have q0 := cell_keep s0 hSw; have q1 := cell_keep pt hSw; have q2 := cell_keep e0 hSw; have q3 := cell_keep e1 hSw; go_simp <;> (try with_reducible rfl)⟩
      simp only [Act.put, List.setIfInBounds_toArray, List.set_cons_zero, List.set_cons_succ]
      refine' wpAnyH_take (i := 1) ?hi1_3 ?hs1_3 ?hf1_3 ?hr1_3 ?hQ1_3 ?hy1_3 (by assumption) ?rest1_3
      case hi1_3 => simp only [List.getElem?_toArray, List.getElem?_cons_succ, List.getElem?_cons_zero] <;> rfl
      case hs1_3 => kernel_rfl
      case hf1_3 => kernel_rfl
      case hr1_3 => kernel_rfl
      case hQ1_3 => exact fun _ _ _ h => h
      case hy1_3 => exact Or.inl ⟨by rfl, fun w hSw => by have q0 := cell_keep s0 hSw; have q1 := cell_keep pt hSw; have q2 := cell_keep e0 hSw; have q3 := cell_keep e1 hSw; go_simp <;> (try with_reducible rfl)⟩
      simp only [Act.put, List.setIfInBounds_toArray, List.set_cons_zero, List.set_cons_succ]
      refine' wpAnyH_take (i := 2) ?hi2_3 ?hs2_3 ?hf2_3 ?hr2_3 ?hQ2_3 ?hy2_3 (by assumption) ?rest2_3
      case hi2_3 => simp only [List.getElem?_toArray, List.getElem?_cons_succ, List.getElem?_cons_zero] <;> rfl
      case hs2_3 => kernel_rfl
      case hf2_3 => kernel_rfl
      case hr2_3 => kernel_rfl
      case hQ2_3 => exact fun _ _ _ h => h
      case hy2_3 => exact Or.inl ⟨by rfl, fun w hSw => by have q0 := cell_keep s0 hSw; have q1 := cell_keep pt hSw; have q2 := cell_keep e0 hSw; have q3 := cell_keep e1 hSw; go_simp <;> (try with_reducible rfl)⟩
      simp only [Act.put, List.setIfInBounds_toArray, List.set_cons_zero, List.set_cons_succ]
      refine' wpAnyH_take (i := 3) ?hi3_3 ?hs3_3 ?hf3_3 ?hr3_3 ?hQ3_3 ?hy3_3 (by assumption) ?rest3_3
      case hi3_3 => simp only [List.getElem?_toArray, List.getElem?_cons_succ, List.getElem?_cons_zero] <;> rfl
      case hs3_3 => kernel_rfl
      case hf3_3 => kernel_rfl
      case hr3_3 => kernel_rfl
      case hQ3_3 => exact fun _ _ _ h => h
      case hy3_3 => exact Or.inl ⟨by rfl, fun w hSw => by have q0 := cell_keep s0 hSw; have q1 := cell_keep pt hSw; have q2 := cell_keep e0 hSw; have q3 := cell_keep e1 hSw; go_simp <;> (try with_reducible rfl)⟩
      simp only [Act.put, List.setIfInBounds_toArray, List.set_cons_zero, List.set_cons_succ]
      refine' wpAnyH_take (i := 4) ?hi4_3 ?hs4_3 ?hf4_3 ?hr4_3 ?hQ4_3 ?hy4_3 (by assumption) ?rest4_3
      case hi4_3 => simp only [List.getElem?_toArray, List.getElem?_cons_succ, List.getElem?_cons_zero] <;> rfl
      case hs4_3 => kernel_rfl
      case hf4_3 => kernel_rfl
      case hr4_3 => kernel_rfl
      case hQ4_3 => exact fun _ _ _ h => h
      case hy4_3 => exact Or.inl ⟨by rfl, fun w hSw => by have q0 := cell_keep s0 hSw; have q1 := cell_keep pt hSw; have q2 := cell_keep e0 hSw; have q3 := cell_keep e1 hSw; go_simp <;> (try with_reducible rfl)⟩
      simp only [Act.put, List.setIfInBounds_toArray, List.set_cons_zero, List.set_cons_succ]
      refine' wpAnyH_take (i := 5) ?hi5_3 ?hs5_3 ?hf5_3 ?hr5_3 ?hQ5_3 ?hy5_3 (by assumption) ?rest5_3
      case hi5_3 => simp only [List.getElem?_toArray, List.getElem?_cons_succ, List.getElem?_cons_zero] <;> rfl
      case hs5_3 => kernel_rfl
      case hf5_3 => kernel_rfl
      case hr5_3 => kernel_rfl
      case hQ5_3 => exact fun _ _ _ h => h
      case hy5_3 => exact Or.inl ⟨by rfl, fun w hSw => by have q0 := cell_keep s0 hSw; have q1 := cell_keep pt hSw; have q2 := cell_keep e0 hSw; have q3 := cell_keep e1 hSw; go_simp <;> (try with_reducible rfl)⟩
      simp only [Act.put, List.setIfInBounds_toArray, List.set_cons_zero, List.set_cons_succ]
      refine' wpAnyH_take (i := 6) ?hi6_3 ?hs6_3 ?hf6_3 ?hr6_3 ?hQ6_3 ?hy6_3 (by assumption) ?rest6_3
      case hi6_3 => simp only [List.getElem?_toArray, List.getElem?_cons_succ, List.getElem?_cons_zero] <;> rfl
      case hs6_3 => kernel_rfl
      case hf6_3 => kernel_rfl
      case hr6_3 => kernel_rfl
      case hQ6_3 => exact fun _ _ _ h => h
      case hy6_3 => exact Or.inl ⟨by rfl, fun w hSw => by have q0 := cell_keep s0 hSw; have q1 := cell_keep pt hSw; have q2 := cell_keep e0 hSw; have q3 := cell_keep e1 hSw; go_simp <;> (try with_reducible rfl)⟩
      simp only [Act.put, List.setIfInBounds_toArray, List.set_cons_zero, List.set_cons_succ]
      refine' wpAnyH_take (i := 7) ?hi7_3 ?hs7_3 ?hf7_3 ?hr7_3 ?hQ7_3 ?hy7_3 (by assumption) ?rest7_3
      case hi7_3 => simp only [List.getElem?_toArray, List.getElem?_cons_succ, List.getElem?_cons_zero] <;> rfl
      case hs7_3 => kernel_rfl
      case hf7_3 => kernel_rfl
      case hr7_3 => kernel_rfl
      case hQ7_3 => exact fun _ _ _ h => h
      case hy7_3 => exact Or.inl ⟨by rfl, fun w hSw => by have q0 := cell_keep s0 hSw; have q1 := cell_keep pt hSw; have q2 := cell_keep e0 hSw; have q3 := cell_keep e1 hSw; go_simp <;> (try with_reducible rfl)⟩
      simp only [Act.put, List.setIfInBounds_toArray, List.set_cons_zero, List.set_cons_succ]
      refine' wpAnyH_take (i := 8) ?hi8_3 ?hs8_3 ?hf8_3 ?hr8_3 ?hQ8_3 ?hy8_3 (by assumption) ?rest8_3
      case hi8_3 => simp only [List.getElem?_toArray, List.getElem?_cons_succ, List.getElem?_cons_zero] <;> rfl
      case hs8_3 => kernel_rfl
      case hf8_3 => kernel_rfl
      case hr8_3 => kernel_rfl
      case hQ8_3 => exact fun _ _ _ h => h
      case hy8_3 => exact Or.inl ⟨by rfl, fun w hSw => by have q0 := cell_keep s0 hSw; have q1 := cell_keep pt hSw; have q2 := cell_keep e0 hSw; have q3 := cell_keep e1 hSw; go_simp <;> (try with_reducible rfl)⟩
      simp only [Act.put, List.setIfInBounds_toArray, List.set_cons_zero, List.set_cons_succ]
      refine' wpAnyH_take (i := 9) ?hi9_3 ?hs9_3 ?hf9_3 ?hr9_3 ?hQ9_3 ?hy9_3 (by assumption) ?rest9_3
      case hi9_3 => simp only [List.getElem?_toArray, List.getElem?_cons_succ, List.getElem?_cons_zero] <;> rfl
      case hs9_3 => kernel_rfl
      case hf9_3 => kernel_rfl
      case hr9_3 => kernel_rfl
      case hQ9_3 => exact fun _ _ _ h => h
      case hy9_3 => exact Or.inl ⟨by rfl, fun w hSw => by have q0 := cell_keep s0 hSw; have q1 := cell_keep pt hSw; have q2 := cell_keep e0 hSw; have q3 := cell_keep e1 hSw; go_simp <;> (try with_reducible rfl)⟩
      simp only [Act.put, List.setIfInBounds_toArray, List.set_cons_zero, List.set_cons_succ]
      refine' wpAnyH_take (i := 10) ?hi10_3 ?hs10_3 ?hf10_3 ?hr10_3 ?hQ10_3 ?hy10_3 (by assumption) ?rest10_3
      case hi10_3 => simp only [List.getElem?_toArray, List.getElem?_cons_succ, List.getElem?_cons_zero] <;> rfl
      case hs10_3 => kernel_rfl
      case hf10_3 => kernel_rfl
      case hr10_3 => kernel_rfl
      case hQ10_3 => exact fun _ _ _ h => h
      case hy10_3 => exact Or.inl ⟨by rfl, fun w hSw => by have q0 := cell_keep s0 hSw; have q1 := cell_keep pt hSw; have q2 := cell_keep e0 hSw; have q3 := cell_keep e1 hSw; go_simp <;> (try with_reducible rfl)⟩
      simp only [Act.put, List.setIfInBounds_toArray, List.set_cons_zero, List.set_cons_succ]
      refine' wpAnyH_take (i := 11) ?hi11_3 ?hs11_3 ?hf11_3 ?hr11_3 ?hQ11_3 ?hy11_3 (by assumption) ?rest11_3
      case hi11_3 => simp only [List.getElem?_toArray, List.getElem?_cons_succ, List.getElem?_cons_zero] <;> rfl
      case hs11_3 => kernel_rfl
      case hf11_3 => kernel_rfl
      case hr11_3 => kernel_rfl
      case hQ11_3 => exact fun _ _ _ h => h
      case hy11_3 => exact Or.inl ⟨by rfl, fun w hSw => by have q0 := cell_keep s0 hSw; have q1 := cell_keep pt hSw; have q2 := cell_keep e0 hSw; have q3 := cell_keep e1 hSw; go_simp <;> (try with_reducible rfl)⟩
      simp only [Act.put, List.setIfInBounds_toArray, List.set_cons_zero, List.set_cons_succ]
      refine' wpAnyH_take (i := 12) ?hi12_3 ?hs12_3 ?hf12_3 ?hr12_3 ?hQ12_3 ?hy12_3 (by assumption) ?rest12_3
      case hi12_3 => simp only [List.getElem?_toArray, List.getElem?_cons_succ, List.getElem?_cons_zero] <;> rfl
      case hs12_3 => kernel_rfl
      case hf12_3 => kernel_rfl
      case hr12_3 => kernel_rfl
      case hQ12_3 => exact fun _ _ _ h => h
      case hy12_3 => exact Or.inl ⟨by rfl, fun w hSw => by have q0 := cell_keep s0 hSw; have q1 := cell_keep pt hSw; have q2 := cell_keep e0 hSw; have q3 := cell_keep e1 hSw; go_simp <;> (try with_reducible rfl)⟩
      simp only [Act.put, List.setIfInBounds_toArray, List.set_cons_zero, List.set_cons_succ]
      refine' wpAnyH_take (i := 13) ?hi13_3 ?hs13_3 ?hf13_3 ?hr13_3 ?hQ13_3 ?hy13_3 (by assumption) ?rest13_3
      case hi13_3 => simp only [List.getElem?_toArray, List.getElem?_cons_succ, List.getElem?_cons_zero] <;> rfl
      case hs13_3 => kernel_rfl
      case hf13_3 => kernel_rfl
      case hr13_3 => kernel_rfl
      case hQ13_3 => exact fun _ _ _ h => h
      case hy13_3 => exact Or.inl ⟨by rfl, fun w hSw => by have q0 := cell_keep s0 hSw; have q1 := cell_keep pt hSw; have q2 := cell_keep e0 hSw; have q3 := cell_keep e1 hSw; go_simp <;> (try with_reducible rfl)⟩
      simp only [Act.put, List.setIfInBounds_toArray, List.set_cons_zero, List.set_cons_succ]
      refine' wpAnyH_take (i := 14) ?hi14_3 ?hs14_3 ?hf14_3 ?hr14_3 ?hQ14_3 ?hy14_3 (by assumption) ?rest14_3
      case hi14_3 => simp only [List.getElem?_toArray, List.getElem?_cons_succ, List.getElem?_cons_zero] <;> rfl
      case hs14_3 => kernel_rfl
      case hf14_3 => kernel_rfl
      case hr14_3 => kernel_rfl
      case hQ14_3 => exact fun _ _ _ h => h
      case hy14_3 => exact Or.inl ⟨by rfl, fun w hSw => by have q0 := cell_keep s0 hSw; have q1 := cell_keep pt hSw; have q2 := cell_keep e0 hSw; have q3 := cell_keep e1 hSw; go_simp <;> (try with_reducible rfl)⟩
      simp only [Act.put, List.setIfInBounds_toArray, List.set_cons_zero, List.set_cons_succ]
      refine' wpAnyH_take (i := 15) ?hi15_3 ?hs15_3 ?hf15_3 ?hr15_3 ?hQ15_3 ?hy15_3 (by assumption) ?rest15_3
      case hi15_3 => simp only [List.getElem?_toArray, List.getElem?_cons_succ, List.getElem?_cons_zero] <;> rfl
      case hs15_3 => kernel_rfl
      case hf15_3 => kernel_rfl
      case hr15_3 => kernel_rfl
      case hQ15_3 => exact fun _ _ _ h => h
      case hy15_3 => exact Or.inl ⟨by rfl, fun w hSw => by have q0 := cell_keep s0 hSw; have q1 := cell_keep pt hSw; have q2 := cell_keep e0 hSw; have q3 := cell_keep e1 hSw; go_simp <;> (try with_reducible rfl)⟩
      simp only [Act.put, List.setIfInBounds_toArray, List.set_cons_zero, List.set_cons_succ]
      refine' wpAnyH_take (i := 16) ?hi16_3 ?hs16_3 ?hf16_3 ?hr16_3 ?hQ16_3 ?hy16_3 (by assumption) ?rest16_3
      case hi16_3 => simp only [List.getElem?_toArray, List.getElem?_cons_succ, List.getElem?_cons_zero] <;> rfl
      case hs16_3 => kernel_rfl
      case hf16_3 => kernel_rfl
      case hr16_3 => kernel_rfl
      case hQ16_3 => exact fun _ _ _ h => h
      case hy16_3 => exact Or.inl ⟨by rfl, fun w hSw => by have q0 := cell_keep s0 hSw; have q1 := cell_keep pt hSw; have q2 := cell_keep e0 hSw; have q3 := cell_keep e1 hSw; go_simp <;> (try with_reducible rfl)⟩
      simp only [Act.put, List.setIfInBounds_toArray, List.set_cons_zero, List.set_cons_succ]
      refine wpAnyH_ready (rs := [17]) (by kernel_rfl) (by simp) ?_
      refine AllReadyH.cons rfl (fun K hK => ?_) AllReadyH.nil
      go_simp
      with_reducible refine Calls.mono (HSm.out _ (Touch.drew (Touch.refl (fun _ => False) w13))) ?_
      rintro e w14 ⟨rfl, k14⟩
      go_wp2_with fail
      have h14 := Keeps.trans hHeld k14
      refine hK.out _ _ h14 (fun hHeld => ?_)
      clear hK K
      refine' wpAnyH_take (i := 18) ?hi18_3 ?hs18_3 ?hf18_3 ?hr18_3 ?hQ18_3 ?hy18_3 (by assumption) ?rest18_3
      case hi18_3 => simp only [List.getElem?_toArray, List.getElem?_cons_succ, List.getElem?_cons_zero] <;> rfl
      case hs18_3 => kernel_rfl
      case hf18_3 => kernel_rfl
      case hr18_3 => kernel_rfl
      case hQ18_3 => exact fun _ _ _ h => h
      case hy18_3 => exact Or.inl ⟨by rfl, fun w hSw => by go_simp <;> (try with_reducible rfl)⟩
      simp only [Act.put, List.setIfInBounds_toArray, List.set_cons_zero, List.set_cons_succ]
      refine wpAnyH_done (by kernel_rfl) ?_ _
      refine NoPanic.normal ?_
      go_wp2_with fail
      go_roundw
      case rel => exact ⟨j + 1, by omega, by go_num, Keeps.trans (Keeps.trans k11 HH.out) h14⟩
      case measure => simp [intOf]; omega
    · obtain rfl : j = 3 := by omega
      go_wp2_with fail
      go_ret
      exact ⟨rfl, Keeps.trans K10 k11⟩

end Go.Proofs.YtkjgfblkbjlohaaGreat
