/- The law SlideWords. -/
import Derived.Test.YtkjgfblkbjlohaaG37
import Derived.Test.YtkjgfblkbjlohaaG41
import Derived.Test.YtkjgfblkbjlohaaG38
import Derived.Test.YtkjgfblkbjlohaaG35
import Derived.BigQuiet
set_option linter.all false

namespace Go.Proofs.Ytkjgfblkbjlohaa
open Go.RowKit

theorem sumZ_mono {Z : Nat → Int} {n : Nat} (h : ∀ i, i < n → 1 ≤ Z i ∧ Z i ≤ 4096) {a b : Nat} (hab : a ≤ b) (hb : b ≤ n) : sumZ Z a ≤ sumZ Z b := by
  induction b with
  | zero => obtain rfl : a = 0 := by omega
            exact Int.le_refl _
  | succ b ih =>
    rcases (by omega : a = b + 1 ∨ a ≤ b) with rfl | h2
    · exact Int.le_refl _
    · have h3 := ih h2 (by omega)
      have h4 := h b (by omega)
      have h5 : sumZ Z (b + 1) = sumZ Z b + Z b := rfl
      omega
set_option maxRecDepth 100000 in
set_option pp.deepTerms true in
set_option pp.deepTerms.threshold 100000 in
set_option pp.maxSteps 10000000 in
set_option maxHeartbeats 4000000 in
theorem words_walk (w : World) (Ac : Option Addr) (m cc : Nat) (C : Nat → Cl) (Th : Option Addr) (nt tc : Nat) (T : Nat → Thg) (Rf : Option Addr) (nr rc : Nat) (R : Nat → Int) (Ro : Option Addr) (nz zc : Nat) (Z : Nat → Int) (s0 s1 s2 : Int) (h : WArg w Ac m cc C Th nt T Rf nr R Ro nz Z s0 s1 s2) :
    Calls Try.prog 7 #[.agg #[.slice Ac m cc, .slice Th nt tc, .slice Rf nr rc, .slice Ro nz zc, .int .u8 s0, .int .u8 s1, .int .u8 s2]] w fun e w' => e = .returned (.bool true) ∧ Keeps w w' := by
  have HMd := Lib.hid (show ∀ w', Keeps w w' → Calls Try.prog 8 #[.agg #[.slice Ac m cc, .slice Th nt tc, .slice Rf nr rc, .slice Ro nz zc, .int .u8 s0, .int .u8 s1, .int .u8 s2]] w' (MadeOut Ac m cc C nt T w') from fun w' k => made_any w' Ac m cc C Th nt tc T Rf nr rc R Ro nz zc Z s0 s1 s2 (h.keep k))
  have hzl := zero_life
  have HAw := Lib.hid awake_any
  have HArg := Lib.hid h
  clear h
  go_enter Try.func7, Try.ntmps7
  go_wp2_with fail
  have K1 : Keeps w (w.alloc (.cells #[.slice Ac m cc, .slice Th nt tc, .slice Rf nr rc, .slice Ro nz zc, .int .u8 s0, .int .u8 s1, .int .u8 s2] 28)) := (Touch.refl _ w).alloc _
  refine Calls.mono (HMd.out _ K1) ?_
  clear HMd
  rintro e w2 (⟨rfl, k2⟩ | ⟨ba, bw, f, bt, A, cap, gs, scp, av, sv, rv, L, G, ats, stay, roots, rfl, hM, hfull, ⟨hm, hnt60, hm0⟩, k2⟩)
  · have K2 := Keeps.trans K1 k2
    clear K1 k2
    go_wp2_with fail
    refine Calls.mono (HAw.out _) ?_
    rintro e w3 ⟨rfl, k3⟩
    go_wp2_with fail
    refine Calls.mono (HAw.out _) ?_
    rintro e w4 ⟨rfl, k4⟩
    go_wp2_with fail
    go_ret
    exact ⟨rfl, Keeps.trans (Keeps.trans (Touch.alloc K2 _) k3) k4⟩
  · have K2 := Keeps.trans K1 k2
    obtain ⟨aa, ac, hav⟩ := hM.at_.form
    obtain ⟨sa, sc, hsv⟩ := hM.stay_.form
    obtain ⟨ra, rc', hrv⟩ := hM.roots_.form
    subst hav
    subst hsv
    subst hrv
    have HM := Lib.hid hM
    have HFull := Lib.hid hfull
    have HNtM := Lib.hid (And.intro hnt60 hm0)
    clear hnt60 hm0
    have hal := hM.al
    have hsl := hM.sl
    have hrl := hM.rl
    have z2 := K2.size
    have hlow := hM.low
    have hgs := hM.gs
    have hbl := hM.st.ar.lt1
    have hbwl := hM.st.ar.lt2
    simp only [World.size_alloc] at hlow hgs
    clear K1 k2 hM hfull
    unfold lifeV
    go_wp2_with fail
    refine Calls.mono (HAw.out _) ?_
    rintro e w3 ⟨rfl, k3⟩
    have k23 : Keeps w2 w3 := Keeps.trans ((Touch.refl _ w2).alloc _) k3
    have B3 : BL w3 w2.heap.size 37 [.pointer (some ⟨ba, 0, none⟩), .pointer (some ⟨bt, 0, none⟩), .pointer (some ⟨ba, 0, none⟩), .pointer (some ⟨bt, 0, none⟩), .slice (some ⟨gs, 0, none⟩) 3 scp, .slice aa ats.length ac, .slice sa stay.length sc, .slice ra roots.length rc', .slice Ac m cc] := (BL.new1 w2 37 _ [.pointer (some ⟨ba, 0, none⟩), .pointer (some ⟨bt, 0, none⟩), .pointer (some ⟨ba, 0, none⟩), .pointer (some ⟨bt, 0, none⟩), .slice (some ⟨gs, 0, none⟩) 3 scp, .slice aa ats.length ac, .slice sa stay.length sc, .slice ra roots.length rc', .slice Ac m cc] _ rfl rfl).keep k3
    have HM3 := Lib.hid (HM.out.keep k23)
    have K3 := Keeps.trans K2 k23
    have z3 := k23.size
    have hxl := B3.lt
    clear k3 K2 HM
    have c6 := B3.c 6 _ rfl
    have hst := HM3.out.is.stays
    have hC := HM3.out.st.tb.ok
    have hI := HM3.out.inv
    obtain ⟨zz, hzz⟩ : ∃ zz, slidZ 500 m f C stay = zz := ⟨_, rfl⟩
    have HSz := Lib.hid (show ∀ w', Keeps w3 w' → ∀ k, k < stay.length → Calls Try.prog 21 #[.agg #[.pointer (some ⟨ba, 0, none⟩), .pointer (some ⟨bt, 0, none⟩)], .int .i64 (gt0 stay k)] w' fun e w2 => e = .returned (.tuple #[.int .i64 (zz k), .bool true, .int .i64 0]) ∧ Keeps w' w2 from fun w' kk k hk => by
      obtain ⟨h, r, d, kx, e1, hc, _, hz, _⟩ := hst.post hC hI (by omega) hk
      have hh := size_any ba bw 500 f bt A m cap C w' (HM3.out.st.keep kk) (gt0 stay k)
      rw [e1] at hh
      rw [← hzz, hz]
      have hi : (⟨h, r, d, kx⟩ : Go.Proofs.Ytkjgfblkbjlohaa.Th).is = true := by unfold Go.Proofs.Ytkjgfblkbjlohaa.Th.is; simpa using hc
      rw [hi] at hh
      exact hh)
    have HSl := Lib.hid (hst.slid hC hI (by omega))
    have HPo := Lib.hid (show ∀ i, i < stay.length → (atT 500 (slidF 500 m f C L stay) m C (slidAt 500 m f C L stay i)).1.words = zz i ∧ (atT 500 (slidF 500 m f C L stay) m C (slidAt 500 m f C L stay i)).1.is = true ∧ (atT 500 (slidF 500 m f C L stay) m C (slidAt 500 m f C L stay i)).2 = 0 from fun i hi => by
      obtain ⟨h, r, d, kx, e1, hc, _, hz, e2⟩ := hst.post hC hI (by omega) hi
      rw [e2, ← hzz, hz]
      have : h.clean.cls ≠ 0 := hc
      exact ⟨rfl, by unfold Go.Proofs.Ytkjgfblkbjlohaa.Th.is; simpa using this, rfl⟩)
    have HW := Lib.hid (hst.well hC hI (by omega))
    have HZ := Lib.hid (show ∀ i, i ≤ stay.length → 0 ≤ sumZ zz i ∧ sumZ zz i ≤ 4096 * i from by rw [← hzz]; exact sum_bd HW.out.z)
    have HZk := Lib.hid (show ∀ i, i < stay.length → 1 ≤ zz i ∧ zz i ≤ 4096 from by rw [← hzz]; exact HW.out.z)
    have HS := Lib.hid hst
    have hst3 := HM3.out.stay_.rd.1
    have HRs := Lib.hid (show Rd w3 sa stay.length (intF .i64 (gt0 stay)) from hst3)
    have HRun := Lib.hid (show ∀ w', Keeps w3 w' → Calls Try.prog 14 #[.pointer (some ⟨ba, 0, none⟩), .pointer (some ⟨bt, 0, none⟩), .slice (some ⟨gs, 0, none⟩) 3 scp, .slice sa stay.length sc, .slice none 0 0] w' (RunYes ba bw 500 f bt A m cap C L 3 (gt0 stay) stay.length (gt0 []) 0 w') from fun w' kk =>
      run_own (HM3.out.keep kk).st HM3.out.inv (HM3.out.keep kk).row HM3.out.is.stays (HM3.out.keep kk).stay_ HM3.out.svb (by omega) (OwnInts.nil_ _ 0) (fun kk e => by cases e) (by simp) (fun x hx => by cases hx) scp)
    rw [hzz] at HSl
    have HZz := Lib.hid hzz
    clear hst hC hI hzz hst3
    obtain ⟨nm, hnm⟩ : ∃ nm, stay.length = nm := ⟨_, rfl⟩
    have HNm := Lib.hid hnm
    rw [hnm] at HSz HSl HPo HZ HZk HRs HRun c6 hsl
    clear hnm
    go_wp2_with fail
    go_loopw [5, 37] (fun v i wr => ∃ k : Nat, k ≤ nm ∧ i = .int .i64 k ∧ OwnInts wr w3.heap.size v ((List.range k).map zz) ∧ Keeps w3 wr) (fun _ i _ => nm - (intOf i).toNat)
    case atStart => exact ⟨0, by omega, rfl, OwnInts.nil_ _ _, Touch.refl _ _⟩
    case round =>
      obtain ⟨w4, rfl⟩ : ∃ w4 : World, w4 = wr := ⟨_, rfl⟩
      obtain ⟨k, hk, rfl, hown, k4⟩ := hrel
      have HO4 := Lib.hid hown
      have z4 := k4.size
      have B4 := B3.keep k4
      have p2 := B4.c 2 _ rfl
      have p3 := B4.c 3 _ rfl
      have p6 := B4.c 6 _ rfl
      rw [HNm.out] at p6
      clear hown
      by_cases hlt : k < nm
      · obtain ⟨b1, o1, rfl, x1⟩ := (HRs.out.keep k4).one hlt
        have d1 : w4.cell? ⟨b1, o1 + k, none⟩ = some (.int .i64 (gt0 stay k)) := x1
        clear x1 HSl HPo HZ HRun HS HM3 HW
        go_wp2_with fail
        refine wp_region_noPanic ?_
        refine wp_region_held_drew (S := (fun w' => Keeps w4 w')) (by kernel_rfl) (Touch.refl _ w4).drew (fun hHeld => ?_)
        refine' wpAnyH_take (i := 0) ?hi0_1 ?hs0_1 ?hf0_1 ?hr0_1 ?hQ0_1 ?hy0_1 (by assumption) ?rest0_1
        case hi0_1 => simp only [List.getElem?_toArray, List.getElem?_cons_zero] <;> rfl
        case hs0_1 => kernel_rfl
        case hf0_1 => kernel_rfl
        case hr0_1 => kernel_rfl
        case hQ0_1 => exact fun _ _ _ h => h
        case hy0_1 => exact Or.inl ⟨by rfl, fun w hSw => by have q0 := cell_keep p2 hSw; have q1 := cell_keep p3 hSw; have q2 := cell_keep p6 hSw; have q3 := cell_keep d1 hSw; go_simp <;> (try with_reducible rfl)⟩
        simp only [Act.put, List.setIfInBounds_toArray, List.set_cons_zero, List.set_cons_succ]
        refine' wpAnyH_take (i := 1) ?hi1_1 ?hs1_1 ?hf1_1 ?hr1_1 ?hQ1_1 ?hy1_1 (by assumption) ?rest1_1
        case hi1_1 => simp only [List.getElem?_toArray, List.getElem?_cons_succ, List.getElem?_cons_zero] <;> rfl
        case hs1_1 => kernel_rfl
        case hf1_1 => kernel_rfl
        case hr1_1 => kernel_rfl
        case hQ1_1 => exact fun _ _ _ h => h
        case hy1_1 => exact Or.inl ⟨by rfl, fun w hSw => by have q0 := cell_keep p2 hSw; have q1 := cell_keep p3 hSw; have q2 := cell_keep p6 hSw; have q3 := cell_keep d1 hSw; go_simp <;> (try with_reducible rfl)⟩
        simp only [Act.put, List.setIfInBounds_toArray, List.set_cons_zero, List.set_cons_succ]
        refine' wpAnyH_take (i := 2) ?hi2_1 ?hs2_1 ?hf2_1 ?hr2_1 ?hQ2_1 ?hy2_1 (by assumption) ?rest2_1
        case hi2_1 => simp only [List.getElem?_toArray, List.getElem?_cons_succ, List.getElem?_cons_zero] <;> rfl
        case hs2_1 => kernel_rfl
        case hf2_1 => kernel_rfl
        case hr2_1 => kernel_rfl
        case hQ2_1 => exact fun _ _ _ h => h
        case hy2_1 => exact Or.inl ⟨by rfl, fun w hSw => by have q0 := cell_keep p2 hSw; have q1 := cell_keep p3 hSw; have q2 := cell_keep p6 hSw; have q3 := cell_keep d1 hSw; go_simp <;> (try with_reducible rfl)⟩
        simp only [Act.put, List.setIfInBounds_toArray, List.set_cons_zero, List.set_cons_succ]
        refine' wpAnyH_take (i := 3) ?hi3_1 ?hs3_1 ?hf3_1 ?hr3_1 ?hQ3_1 ?hy3_1 (by assumption) ?rest3_1
        case hi3_1 => simp only [List.getElem?_toArray, List.getElem?_cons_succ, List.getElem?_cons_zero] <;> rfl
        case hs3_1 => kernel_rfl
        case hf3_1 => kernel_rfl
        case hr3_1 => kernel_rfl
        case hQ3_1 => exact fun _ _ _ h => h
        case hy3_1 => exact Or.inl ⟨by rfl, fun w hSw => by have q0 := cell_keep p2 hSw; have q1 := cell_keep p3 hSw; have q2 := cell_keep p6 hSw; have q3 := cell_keep d1 hSw; go_simp <;> (try with_reducible rfl)⟩
        simp only [Act.put, List.setIfInBounds_toArray, List.set_cons_zero, List.set_cons_succ]
        refine' wpAnyH_take (i := 4) ?hi4_1 ?hs4_1 ?hf4_1 ?hr4_1 ?hQ4_1 ?hy4_1 (by assumption) ?rest4_1
        case hi4_1 => simp only [List.getElem?_toArray, List.getElem?_cons_succ, List.getElem?_cons_zero] <;> rfl
        case hs4_1 => kernel_rfl
        case hf4_1 => kernel_rfl
        case hr4_1 => kernel_rfl
        case hQ4_1 => exact fun _ _ _ h => h
        case hy4_1 => exact Or.inl ⟨by rfl, fun w hSw => by have q0 := cell_keep p2 hSw; have q1 := cell_keep p3 hSw; have q2 := cell_keep p6 hSw; have q3 := cell_keep d1 hSw; go_simp <;> (try with_reducible rfl)⟩
        simp only [Act.put, List.setIfInBounds_toArray, List.set_cons_zero, List.set_cons_succ]
        refine' wpAnyH_take (i := 5) ?hi5_1 ?hs5_1 ?hf5_1 ?hr5_1 ?hQ5_1 ?hy5_1 (by assumption) ?rest5_1
        case hi5_1 => simp only [List.getElem?_toArray, List.getElem?_cons_succ, List.getElem?_cons_zero] <;> rfl
        case hs5_1 => kernel_rfl
        case hf5_1 => kernel_rfl
        case hr5_1 => kernel_rfl
        case hQ5_1 => exact fun _ _ _ h => h
        case hy5_1 => exact Or.inl ⟨by rfl, fun w hSw => by have q0 := cell_keep p2 hSw; have q1 := cell_keep p3 hSw; have q2 := cell_keep p6 hSw; have q3 := cell_keep d1 hSw; go_simp <;> (try with_reducible rfl)⟩
        simp only [Act.put, List.setIfInBounds_toArray, List.set_cons_zero, List.set_cons_succ]
        refine' wpAnyH_take (i := 6) ?hi6_1 ?hs6_1 ?hf6_1 ?hr6_1 ?hQ6_1 ?hy6_1 (by assumption) ?rest6_1
        case hi6_1 => simp only [List.getElem?_toArray, List.getElem?_cons_succ, List.getElem?_cons_zero] <;> rfl
        case hs6_1 => kernel_rfl
        case hf6_1 => kernel_rfl
        case hr6_1 => kernel_rfl
        case hQ6_1 => exact fun _ _ _ h => h
        case hy6_1 => exact Or.inl ⟨by rfl, fun w hSw => by have q0 := cell_keep p2 hSw; have q1 := cell_keep p3 hSw; have q2 := cell_keep p6 hSw; have q3 := cell_keep d1 hSw; go_simp <;> (try with_reducible rfl)⟩
        simp only [Act.put, List.setIfInBounds_toArray, List.set_cons_zero, List.set_cons_succ]
        refine wpAnyH_ready (rs := [7]) (by kernel_rfl) (by simp) ?_
        refine AllReadyH.cons rfl (fun K hK => ?_) AllReadyH.nil
        go_simp
        with_reducible refine Calls.mono (HSz.out _ (Keeps.trans k4 hHeld) k hlt) ?_
        rintro e w5 ⟨rfl, k5⟩
        go_wp2_with fail
        have h5 := Keeps.trans hHeld k5
        refine hK.out _ _ h5 (fun hHeld => ?_)
        clear hK K
        refine' wpAnyH_take (i := 8) ?hi8_1 ?hs8_1 ?hf8_1 ?hr8_1 ?hQ8_1 ?hy8_1 (by assumption) ?rest8_1
        case hi8_1 => simp only [List.getElem?_toArray, List.getElem?_cons_succ, List.getElem?_cons_zero] <;> rfl
        case hs8_1 => kernel_rfl
        case hf8_1 => kernel_rfl
        case hr8_1 => kernel_rfl
        case hQ8_1 => exact fun _ _ _ h => h
        case hy8_1 => exact Or.inl ⟨by rfl, fun w hSw => by go_simp <;> (try with_reducible rfl)⟩
        simp only [Act.put, List.setIfInBounds_toArray, List.set_cons_zero, List.set_cons_succ]
        refine' wpAnyH_take (i := 9) ?hi9_1 ?hs9_1 ?hf9_1 ?hr9_1 ?hQ9_1 ?hy9_1 (by assumption) ?rest9_1
        case hi9_1 => simp only [List.getElem?_toArray, List.getElem?_cons_succ, List.getElem?_cons_zero] <;> rfl
        case hs9_1 => kernel_rfl
        case hf9_1 => kernel_rfl
        case hr9_1 => kernel_rfl
        case hQ9_1 => exact fun _ _ _ h => h
        case hy9_1 => exact Or.inl ⟨by rfl, fun w hSw => by go_simp <;> (try with_reducible rfl)⟩
        simp only [Act.put, List.setIfInBounds_toArray, List.set_cons_zero, List.set_cons_succ]
        refine' wpAnyH_take (i := 10) ?hi10_1 ?hs10_1 ?hf10_1 ?hr10_1 ?hQ10_1 ?hy10_1 (by assumption) ?rest10_1
        case hi10_1 => simp only [List.getElem?_toArray, List.getElem?_cons_succ, List.getElem?_cons_zero] <;> rfl
        case hs10_1 => kernel_rfl
        case hf10_1 => kernel_rfl
        case hr10_1 => kernel_rfl
        case hQ10_1 => exact fun _ _ _ h => h
        case hy10_1 => exact Or.inl ⟨by rfl, fun w hSw => by go_simp <;> (try with_reducible rfl)⟩
        simp only [Act.put, List.setIfInBounds_toArray, List.set_cons_zero, List.set_cons_succ]
        refine' wpAnyH_take (i := 11) ?hi11_1 ?hs11_1 ?hf11_1 ?hr11_1 ?hQ11_1 ?hy11_1 (by assumption) ?rest11_1
        case hi11_1 => simp only [List.getElem?_toArray, List.getElem?_cons_succ, List.getElem?_cons_zero] <;> rfl
        case hs11_1 => kernel_rfl
        case hf11_1 => kernel_rfl
        case hr11_1 => kernel_rfl
        case hQ11_1 => exact fun _ _ _ h => h
        case hy11_1 => exact Or.inl ⟨by rfl, fun w hSw => by go_simp <;> (try with_reducible rfl)⟩
        simp only [Act.put, List.setIfInBounds_toArray, List.set_cons_zero, List.set_cons_succ]
        refine' wpAnyH_take (i := 12) ?hi12_1 ?hs12_1 ?hf12_1 ?hr12_1 ?hQ12_1 ?hy12_1 (by assumption) ?rest12_1
        case hi12_1 => simp only [List.getElem?_toArray, List.getElem?_cons_succ, List.getElem?_cons_zero] <;> rfl
        case hs12_1 => kernel_rfl
        case hf12_1 => kernel_rfl
        case hr12_1 => kernel_rfl
        case hQ12_1 => exact fun _ _ _ h => h
        case hy12_1 => exact Or.inl ⟨by rfl, fun w hSw => by go_simp <;> (try with_reducible rfl)⟩
        simp only [Act.put, List.setIfInBounds_toArray, List.set_cons_zero, List.set_cons_succ]
        refine' wpAnyH_take (i := 13) ?hi13_1 ?hs13_1 ?hf13_1 ?hr13_1 ?hQ13_1 ?hy13_1 (by assumption) ?rest13_1
        case hi13_1 => simp only [List.getElem?_toArray, List.getElem?_cons_succ, List.getElem?_cons_zero] <;> rfl
        case hs13_1 => kernel_rfl
        case hf13_1 => kernel_rfl
        case hr13_1 => kernel_rfl
        case hQ13_1 => exact fun _ _ _ h => h
        case hy13_1 => exact Or.inl ⟨by rfl, fun w hSw => by go_simp <;> (try with_reducible rfl)⟩
        simp only [Act.put, List.setIfInBounds_toArray, List.set_cons_zero, List.set_cons_succ]
        refine' wpAnyH_take (i := 14) ?hi14_1 ?hs14_1 ?hf14_1 ?hr14_1 ?hQ14_1 ?hy14_1 (by assumption) ?rest14_1
        case hi14_1 => simp only [List.getElem?_toArray, List.getElem?_cons_succ, List.getElem?_cons_zero] <;> rfl
        case hs14_1 => kernel_rfl
        case hf14_1 => kernel_rfl
        case hr14_1 => kernel_rfl
        case hQ14_1 => exact fun _ _ _ h => h
        case hy14_1 => exact Or.inl ⟨by rfl, fun w hSw => by go_simp <;> (try with_reducible rfl)⟩
        simp only [Act.put, List.setIfInBounds_toArray, List.set_cons_zero, List.set_cons_succ]
        refine wpAnyH_done (by kernel_rfl) ?_ _
        refine NoPanic.normal ?_
        have HO5 := Lib.hid (HO4.out.keep (Keeps.trans h5 (Touch.refl _ _)))
        have z5 := h5.size
        go_wp2_with (at_builtin; refine app_int ?_ (.tmp 52) (.tmp 54) ?_ w3.heap.size u5 ((List.range k).map zz) (HO5.out.alloc _) ?_ w5.heap.size (zz k) ?_ (cell_new _ _ _ _ rfl) (by simp; omega) (by simp; omega) ?_; rfl; rfl; rfl; rfl; intro v' w6 hown' hgr hbl; have hlo := HO5.out.lt; have K6 : Keeps w3 w6 := Keeps.grown (Touch.alloc (Keeps.trans k4 h5) (.cells #[.int .i64 (zz k)] 3)) hgr (fun kk e => (hlo kk e).1); have HO6 := Lib.hid hown'; clear hgr hbl hlo hown')
        go_roundw
        case rel => exact ⟨k + 1, by omega, by go_num, by rw [List.range_succ, List.map_append]; exact HO6.out, K6⟩
        case measure => simp [intOf]; omega
      · obtain rfl : k = nm := by omega
        have c0 := B4.c 0 _ rfl
        have c1 := B4.c 1 _ rfl
        have c4 := B4.c 4 _ rfl
        clear p2 p3
        go_wp2_with fail
        refine Calls.mono (HRun.out _ k4) ?_
        clear HRun
        rintro e w6 ⟨v, ad, cp, rfl, hown, hnow, hst6, o6⟩
        have K6 := (Keeps.trans K3 k4).new o6 (by omega)
        have B6 := B4.touch o6 (show ¬ w2.heap.size = bw by omega)
        have hlo4 := HO4.out.lt
        have HO6 := Lib.hid (HO4.out.touch o6 (fun kk e h => by have := (hlo4 kk e).1; omega))
        have HSt6 := Lib.hid hst6
        have hnr := hnow.rd
        rw [HNm.out.symm] at hnr
        have hnr2 : Rd w6 ad (3 * 3) (spF (slidNow 500 m f C L stay)) := hnr
        have HNr := Lib.hid hnr2
        have HNb := Lib.hid (show ∀ b off, ad = some ⟨b, off, none⟩ → w4.heap.size ≤ b ∧ b < w6.heap.size from fun b off e => by
          obtain ⟨g, cap', ff, e2, q1, q2, _⟩ := hnow (by omega)
          rw [e] at e2
          simp only [Option.some.injEq, Addr.mk.injEq, and_true] at e2
          omega)
        obtain ⟨c, hc0, hc3, hcj⟩ := HSl.out
        have HCj := Lib.hid hcj
        have hc3' := hc3
        have HSt7 := Lib.hid (show St w6 ba bw 500 (slidF 500 m f C L stay) bt A m cap C from by have := HSt6.out; rw [HNm.out.symm] at this; exact this)
        have HWk := Lib.hid (show ∀ w', Keeps w6 w' → ∀ j, j < 3 → Calls Try.prog 18 #[.agg #[.pointer (some ⟨ba, 0, none⟩), .pointer (some ⟨bt, 0, none⟩)], .int .i64 (L j).f, .int .i64 (slidNow 500 m f C L stay j).t] w' fun e w2 => ∃ va al cl, e = .returned (.tuple #[.slice va al cl, .int .i64 0]) ∧ al = c (j + 1) - c j ∧ OwnInts w2 w'.heap.size (.slice va al cl) ((List.range' (c j) (c (j + 1) - c j)).map (slidAt 500 m f C L stay)) ∧ Keeps w' w2 from fun w' kk j hj => by
          have hb := (HW.out.right hj)
          have hb2 := (rightB_iff _).1 hb
          refine Calls.mono (walk_any ba bw 500 (slidF 500 m f C L stay) bt A m cap C w' (HSt7.out.keep kk) (L j).f (slidNow 500 m f C L stay j).t (by unfold slidNow; omega)) ?_
          rintro e w2 ⟨v, l, x, rfl, hw, ho, k2⟩
          obtain ⟨rfl, rfl⟩ := hw.same (HCj.out j hj).2.1.walk
          obtain ⟨va, cl, hv⟩ := ho.form
          subst hv
          refine ⟨va, _, cl, rfl, by simp, ho, k2⟩)
        have HUs := Lib.hid (show ∀ w' j, j < 3 → Calls Try.prog 20 #[.agg #[.int .i64 (L j).f, .int .i64 (slidNow 500 m f C L stay j).t, .int .i64 (L j).e]] w' fun e w2 => e = .returned (.int .i64 (sumZ zz (c (j + 1)) - sumZ zz (c j))) ∧ Keeps w' w2 from fun w' j hj => by
          have hh := used_any (slidNow 500 m f C L stay j) w' (HW.out.right hj)
          have hfe := sts_fe (L := L) (n := 3) (Z := zOf (atT 500 f m C) (gt0 stay)) stay.length j
          have h3 := (HCj.out j hj).2.2
          have h4 : (slidNow 500 m f C L stay j).f = (L j).f := hfe.1
          have h5 : (slidNow 500 m f C L stay j).e = (L j).e := hfe.2
          unfold agg at hh
          rw [h4, h5, h3] at hh
          exact hh)
        have HSz2 := Lib.hid (show ∀ w', Keeps w6 w' → ∀ i, i < k → Calls Try.prog 21 #[.agg #[.pointer (some ⟨ba, 0, none⟩), .pointer (some ⟨bt, 0, none⟩)], .int .i64 (slidAt 500 m f C L stay i)] w' fun e w2 => e = .returned (.tuple #[.int .i64 (zz i), .bool true, .int .i64 0]) ∧ Keeps w' w2 from fun w' kk i hi => by
          have hh := size_any ba bw 500 (slidF 500 m f C L stay) bt A m cap C w' (HSt7.out.keep kk) (slidAt 500 m f C L stay i)
          obtain ⟨e1, e2, e3⟩ := HPo.out i hi
          rw [e1, e2, e3] at hh
          exact hh)
        have hcm : ∀ j, j < 3 → c j ≤ c (j + 1) := fun j hj => (HCj.out j hj).1
        have hcb : c 1 ≤ k ∧ c 2 ≤ k := by have h1 : c 0 ≤ c 1 := hcm 0 (by omega); have h2 : c 1 ≤ c 2 := hcm 1 (by omega); have h3 : c 2 ≤ c 3 := hcm 2 (by omega); omega
        have HCb := Lib.hid (show ∀ j, j < 3 → c j ≤ c (j + 1) ∧ c (j + 1) ≤ k from fun j hj => by
          refine ⟨hcm j hj, ?_⟩
          rcases (by omega : j = 0 ∨ j = 1 ∨ j = 2) with rfl | rfl | rfl <;> (simp only [Nat.zero_add, Nat.reduceAdd]; omega))
        have hfe : ∀ j, j < 3 → (slidNow 500 m f C L stay j).f = (L j).f ∧ (slidNow 500 m f C L stay j).e = (L j).e := fun j _ => sts_fe (L := L) (n := 3) (Z := zOf (atT 500 f m C) (gt0 stay)) stay.length j
        have HFe := Lib.hid hfe
        clear hown hnow hst6 hnr hnr2 hcj hcm hfe c0 c1 c4 p6 HSt6 HSz HSl hcb HO4 hlo4
        go_wp2_with fail
        go_loopw [13, 14, 74] (fun nv wd i wr => ∃ j : Nat, j ≤ 3 ∧ i = .int .i64 j ∧ wd = .int .i64 0 ∧ OwnInts wr w6.heap.size nv ((List.range (c j)).map zz) ∧ Keeps w6 wr) (fun _ _ i _ => 3 - (intOf i).toNat)
        case atStart => exact ⟨0, by omega, rfl, rfl, by rw [hc0]; exact OwnInts.nil_ _ _, Touch.refl _ _⟩
        case round =>
          obtain ⟨w7, rfl⟩ : ∃ w7 : World, w7 = wr := ⟨_, rfl⟩
          obtain ⟨j, hj, rfl, rfl, hown, k7⟩ := hrel
          have HO7 := Lib.hid hown
          have z7 := k7.size
          have B7 := B6.keep k7
          have p2 := B7.c 2 _ rfl
          have p3 := B7.c 3 _ rfl
          clear hown
          by_cases hlt : j < 3
          · obtain ⟨b, o, rfl, e0, e1, e2⟩ := (HNr.out.keep k7).sp hlt
            rw [(HFe.out j hlt).1] at e0
            rw [(HFe.out j hlt).2] at e2
            have HNb7 := HNb.out b o rfl
            have hltI : (j : Int) < 3 := by omega
            obtain ⟨us, hus⟩ : ∃ us, sumZ zz (c (j + 1)) - sumZ zz (c j) = us := ⟨_, rfl⟩
            have HUj := Lib.hid (show ∀ w', Calls Try.prog 20 #[.agg #[.int .i64 (L j).f, .int .i64 (slidNow 500 m f C L stay j).t, .int .i64 (L j).e]] w' fun e w2 => e = .returned (.int .i64 us) ∧ Keeps w' w2 from fun w' => by rw [← hus]; exact HUs.out w' j hlt)
            have husb : 0 ≤ us ∧ us ≤ 300000 := by
              have h1 := HZ.out (c (j + 1)) (HCb.out j hlt).2
              have h2 := HZ.out (c j) (by have := HCb.out j hlt; omega)
              have h3 := (HCb.out j hlt)
              have h4 : sumZ zz (c j) ≤ sumZ zz (c (j + 1)) := sumZ_mono HZk.out h3.1 h3.2
              omega
            have gus : IntKind.i64.wrap us = us := IntWalk.i64_in _ ⟨by omega, by omega⟩
            have HUsE := Lib.hid hus
            have hcjj := HCb.out j hlt
            clear hus
            go_wp2_with fail
            refine wp_region_noPanic ?_
            refine wp_region_held_drew (S := (fun w' => Keeps w7 w')) (by kernel_rfl) (Touch.refl _ w7).drew (fun hHeld => ?_)
            refine' wpAnyH_take (i := 0) ?hi0_2 ?hs0_2 ?hf0_2 ?hr0_2 ?hQ0_2 ?hy0_2 (by assumption) ?rest0_2
            case hi0_2 => simp only [List.getElem?_toArray, List.getElem?_cons_zero] <;> rfl
            case hs0_2 => kernel_rfl
            case hf0_2 => kernel_rfl
            case hr0_2 => kernel_rfl
            case hQ0_2 => exact fun _ _ _ h => h
            case hy0_2 => exact Or.inl ⟨by rfl, fun w hSw => by have q0 := cell_keep p2 hSw; have q1 := cell_keep p3 hSw; have q2 := cell_keep e0 hSw; have q3 := cell_keep e1 hSw; go_simp <;> (try with_reducible rfl)⟩
            simp only [Act.put, List.setIfInBounds_toArray, List.set_cons_zero, List.set_cons_succ]
            refine' wpAnyH_take (i := 1) ?hi1_2 ?hs1_2 ?hf1_2 ?hr1_2 ?hQ1_2 ?hy1_2 (by assumption) ?rest1_2
            case hi1_2 => simp only [List.getElem?_toArray, List.getElem?_cons_succ, List.getElem?_cons_zero] <;> rfl
            case hs1_2 => kernel_rfl
            case hf1_2 => kernel_rfl
            case hr1_2 => kernel_rfl
            case hQ1_2 => exact fun _ _ _ h => h
            case hy1_2 => exact Or.inl ⟨by rfl, fun w hSw => by have q0 := cell_keep p2 hSw; have q1 := cell_keep p3 hSw; have q2 := cell_keep e0 hSw; have q3 := cell_keep e1 hSw; go_simp <;> (try with_reducible rfl)⟩
            simp only [Act.put, List.setIfInBounds_toArray, List.set_cons_zero, List.set_cons_succ]
            refine' wpAnyH_take (i := 2) ?hi2_2 ?hs2_2 ?hf2_2 ?hr2_2 ?hQ2_2 ?hy2_2 (by assumption) ?rest2_2
            case hi2_2 => simp only [List.getElem?_toArray, List.getElem?_cons_succ, List.getElem?_cons_zero] <;> rfl
            case hs2_2 => kernel_rfl
            case hf2_2 => kernel_rfl
            case hr2_2 => kernel_rfl
            case hQ2_2 => exact fun _ _ _ h => h
            case hy2_2 => exact Or.inl ⟨by rfl, fun w hSw => by have q0 := cell_keep p2 hSw; have q1 := cell_keep p3 hSw; have q2 := cell_keep e0 hSw; have q3 := cell_keep e1 hSw; go_simp <;> (try with_reducible rfl)⟩
            simp only [Act.put, List.setIfInBounds_toArray, List.set_cons_zero, List.set_cons_succ]
            refine' wpAnyH_take (i := 3) ?hi3_2 ?hs3_2 ?hf3_2 ?hr3_2 ?hQ3_2 ?hy3_2 (by assumption) ?rest3_2
            case hi3_2 => simp only [List.getElem?_toArray, List.getElem?_cons_succ, List.getElem?_cons_zero] <;> rfl
            case hs3_2 => kernel_rfl
            case hf3_2 => kernel_rfl
            case hr3_2 => kernel_rfl
            case hQ3_2 => exact fun _ _ _ h => h
            case hy3_2 => exact Or.inl ⟨by rfl, fun w hSw => by have q0 := cell_keep p2 hSw; have q1 := cell_keep p3 hSw; have q2 := cell_keep e0 hSw; have q3 := cell_keep e1 hSw; go_simp <;> (try with_reducible rfl)⟩
            simp only [Act.put, List.setIfInBounds_toArray, List.set_cons_zero, List.set_cons_succ]
            refine' wpAnyH_take (i := 4) ?hi4_2 ?hs4_2 ?hf4_2 ?hr4_2 ?hQ4_2 ?hy4_2 (by assumption) ?rest4_2
            case hi4_2 => simp only [List.getElem?_toArray, List.getElem?_cons_succ, List.getElem?_cons_zero] <;> rfl
            case hs4_2 => kernel_rfl
            case hf4_2 => kernel_rfl
            case hr4_2 => kernel_rfl
            case hQ4_2 => exact fun _ _ _ h => h
            case hy4_2 => exact Or.inl ⟨by rfl, fun w hSw => by have q0 := cell_keep p2 hSw; have q1 := cell_keep p3 hSw; have q2 := cell_keep e0 hSw; have q3 := cell_keep e1 hSw; go_simp <;> (try with_reducible rfl)⟩
            simp only [Act.put, List.setIfInBounds_toArray, List.set_cons_zero, List.set_cons_succ]
            refine' wpAnyH_take (i := 5) ?hi5_2 ?hs5_2 ?hf5_2 ?hr5_2 ?hQ5_2 ?hy5_2 (by assumption) ?rest5_2
            case hi5_2 => simp only [List.getElem?_toArray, List.getElem?_cons_succ, List.getElem?_cons_zero] <;> rfl
            case hs5_2 => kernel_rfl
            case hf5_2 => kernel_rfl
            case hr5_2 => kernel_rfl
            case hQ5_2 => exact fun _ _ _ h => h
            case hy5_2 => exact Or.inl ⟨by rfl, fun w hSw => by have q0 := cell_keep p2 hSw; have q1 := cell_keep p3 hSw; have q2 := cell_keep e0 hSw; have q3 := cell_keep e1 hSw; go_simp <;> (try with_reducible rfl)⟩
            simp only [Act.put, List.setIfInBounds_toArray, List.set_cons_zero, List.set_cons_succ]
            refine' wpAnyH_take (i := 6) ?hi6_2 ?hs6_2 ?hf6_2 ?hr6_2 ?hQ6_2 ?hy6_2 (by assumption) ?rest6_2
            case hi6_2 => simp only [List.getElem?_toArray, List.getElem?_cons_succ, List.getElem?_cons_zero] <;> rfl
            case hs6_2 => kernel_rfl
            case hf6_2 => kernel_rfl
            case hr6_2 => kernel_rfl
            case hQ6_2 => exact fun _ _ _ h => h
            case hy6_2 => exact Or.inl ⟨by rfl, fun w hSw => by have q0 := cell_keep p2 hSw; have q1 := cell_keep p3 hSw; have q2 := cell_keep e0 hSw; have q3 := cell_keep e1 hSw; go_simp <;> (try with_reducible rfl)⟩
            simp only [Act.put, List.setIfInBounds_toArray, List.set_cons_zero, List.set_cons_succ]
            refine' wpAnyH_take (i := 7) ?hi7_2 ?hs7_2 ?hf7_2 ?hr7_2 ?hQ7_2 ?hy7_2 (by assumption) ?rest7_2
            case hi7_2 => simp only [List.getElem?_toArray, List.getElem?_cons_succ, List.getElem?_cons_zero] <;> rfl
            case hs7_2 => kernel_rfl
            case hf7_2 => kernel_rfl
            case hr7_2 => kernel_rfl
            case hQ7_2 => exact fun _ _ _ h => h
            case hy7_2 => exact Or.inl ⟨by rfl, fun w hSw => by have q0 := cell_keep p2 hSw; have q1 := cell_keep p3 hSw; have q2 := cell_keep e0 hSw; have q3 := cell_keep e1 hSw; go_simp <;> (try with_reducible rfl)⟩
            simp only [Act.put, List.setIfInBounds_toArray, List.set_cons_zero, List.set_cons_succ]
            refine' wpAnyH_take (i := 8) ?hi8_2 ?hs8_2 ?hf8_2 ?hr8_2 ?hQ8_2 ?hy8_2 (by assumption) ?rest8_2
            case hi8_2 => simp only [List.getElem?_toArray, List.getElem?_cons_succ, List.getElem?_cons_zero] <;> rfl
            case hs8_2 => kernel_rfl
            case hf8_2 => kernel_rfl
            case hr8_2 => kernel_rfl
            case hQ8_2 => exact fun _ _ _ h => h
            case hy8_2 => exact Or.inl ⟨by rfl, fun w hSw => by have q0 := cell_keep p2 hSw; have q1 := cell_keep p3 hSw; have q2 := cell_keep e0 hSw; have q3 := cell_keep e1 hSw; go_simp <;> (try with_reducible rfl)⟩
            simp only [Act.put, List.setIfInBounds_toArray, List.set_cons_zero, List.set_cons_succ]
            refine' wpAnyH_take (i := 9) ?hi9_2 ?hs9_2 ?hf9_2 ?hr9_2 ?hQ9_2 ?hy9_2 (by assumption) ?rest9_2
            case hi9_2 => simp only [List.getElem?_toArray, List.getElem?_cons_succ, List.getElem?_cons_zero] <;> rfl
            case hs9_2 => kernel_rfl
            case hf9_2 => kernel_rfl
            case hr9_2 => kernel_rfl
            case hQ9_2 => exact fun _ _ _ h => h
            case hy9_2 => exact Or.inl ⟨by rfl, fun w hSw => by have q0 := cell_keep p2 hSw; have q1 := cell_keep p3 hSw; have q2 := cell_keep e0 hSw; have q3 := cell_keep e1 hSw; go_simp <;> (try with_reducible rfl)⟩
            simp only [Act.put, List.setIfInBounds_toArray, List.set_cons_zero, List.set_cons_succ]
            refine' wpAnyH_take (i := 10) ?hi10_2 ?hs10_2 ?hf10_2 ?hr10_2 ?hQ10_2 ?hy10_2 (by assumption) ?rest10_2
            case hi10_2 => simp only [List.getElem?_toArray, List.getElem?_cons_succ, List.getElem?_cons_zero] <;> rfl
            case hs10_2 => kernel_rfl
            case hf10_2 => kernel_rfl
            case hr10_2 => kernel_rfl
            case hQ10_2 => exact fun _ _ _ h => h
            case hy10_2 => exact Or.inl ⟨by rfl, fun w hSw => by have q0 := cell_keep p2 hSw; have q1 := cell_keep p3 hSw; have q2 := cell_keep e0 hSw; have q3 := cell_keep e1 hSw; go_simp <;> (try with_reducible rfl)⟩
            simp only [Act.put, List.setIfInBounds_toArray, List.set_cons_zero, List.set_cons_succ]
            refine' wpAnyH_take (i := 11) ?hi11_2 ?hs11_2 ?hf11_2 ?hr11_2 ?hQ11_2 ?hy11_2 (by assumption) ?rest11_2
            case hi11_2 => simp only [List.getElem?_toArray, List.getElem?_cons_succ, List.getElem?_cons_zero] <;> rfl
            case hs11_2 => kernel_rfl
            case hf11_2 => kernel_rfl
            case hr11_2 => kernel_rfl
            case hQ11_2 => exact fun _ _ _ h => h
            case hy11_2 => exact Or.inl ⟨by rfl, fun w hSw => by have q0 := cell_keep p2 hSw; have q1 := cell_keep p3 hSw; have q2 := cell_keep e0 hSw; have q3 := cell_keep e1 hSw; go_simp <;> (try with_reducible rfl)⟩
            simp only [Act.put, List.setIfInBounds_toArray, List.set_cons_zero, List.set_cons_succ]
            refine wpAnyH_ready (rs := [12]) (by kernel_rfl) (by simp) ?_
            refine AllReadyH.cons rfl (fun K hK => ?_) AllReadyH.nil
            go_simp
            with_reducible refine Calls.mono (HWk.out _ (Keeps.trans k7 hHeld) j hlt) ?_
            rintro e w8 ⟨va, al, cl, rfl, hva, hall, k8⟩
            go_wp2_with fail
            have h8 := Keeps.trans hHeld k8
            refine hK.out _ _ h8 (fun hHeld => ?_)
            clear hK K
            refine' wpAnyH_take (i := 13) ?hi13_2 ?hs13_2 ?hf13_2 ?hr13_2 ?hQ13_2 ?hy13_2 (by assumption) ?rest13_2
            case hi13_2 => simp only [List.getElem?_toArray, List.getElem?_cons_succ, List.getElem?_cons_zero] <;> rfl
            case hs13_2 => kernel_rfl
            case hf13_2 => kernel_rfl
            case hr13_2 => kernel_rfl
            case hQ13_2 => exact fun _ _ _ h => h
            case hy13_2 => exact Or.inl ⟨by rfl, fun w hSw => by go_simp <;> (try with_reducible rfl)⟩
            simp only [Act.put, List.setIfInBounds_toArray, List.set_cons_zero, List.set_cons_succ]
            refine' wpAnyH_take (i := 14) ?hi14_2 ?hs14_2 ?hf14_2 ?hr14_2 ?hQ14_2 ?hy14_2 (by assumption) ?rest14_2
            case hi14_2 => simp only [List.getElem?_toArray, List.getElem?_cons_succ, List.getElem?_cons_zero] <;> rfl
            case hs14_2 => kernel_rfl
            case hf14_2 => kernel_rfl
            case hr14_2 => kernel_rfl
            case hQ14_2 => exact fun _ _ _ h => h
            case hy14_2 => exact Or.inl ⟨by rfl, fun w hSw => by go_simp <;> (try with_reducible rfl)⟩
            simp only [Act.put, List.setIfInBounds_toArray, List.set_cons_zero, List.set_cons_succ]
            refine' wpAnyH_take (i := 15) ?hi15_2 ?hs15_2 ?hf15_2 ?hr15_2 ?hQ15_2 ?hy15_2 (by assumption) ?rest15_2
            case hi15_2 => simp only [List.getElem?_toArray, List.getElem?_cons_succ, List.getElem?_cons_zero] <;> rfl
            case hs15_2 => kernel_rfl
            case hf15_2 => kernel_rfl
            case hr15_2 => kernel_rfl
            case hQ15_2 => exact fun _ _ _ h => h
            case hy15_2 => exact Or.inl ⟨by rfl, fun w hSw => by go_simp <;> (try with_reducible rfl)⟩
            simp only [Act.put, List.setIfInBounds_toArray, List.set_cons_zero, List.set_cons_succ]
            refine' wpAnyH_take (i := 16) ?hi16_2 ?hs16_2 ?hf16_2 ?hr16_2 ?hQ16_2 ?hy16_2 (by assumption) ?rest16_2
            case hi16_2 => simp only [List.getElem?_toArray, List.getElem?_cons_succ, List.getElem?_cons_zero] <;> rfl
            case hs16_2 => kernel_rfl
            case hf16_2 => kernel_rfl
            case hr16_2 => kernel_rfl
            case hQ16_2 => exact fun _ _ _ h => h
            case hy16_2 => exact Or.inl ⟨by rfl, fun w hSw => by go_simp <;> (try with_reducible rfl)⟩
            simp only [Act.put, List.setIfInBounds_toArray, List.set_cons_zero, List.set_cons_succ]
            refine' wpAnyH_take (i := 17) ?hi17_2 ?hs17_2 ?hf17_2 ?hr17_2 ?hQ17_2 ?hy17_2 (by assumption) ?rest17_2
            case hi17_2 => simp only [List.getElem?_toArray, List.getElem?_cons_succ, List.getElem?_cons_zero] <;> rfl
            case hs17_2 => kernel_rfl
            case hf17_2 => kernel_rfl
            case hr17_2 => kernel_rfl
            case hQ17_2 => exact fun _ _ _ h => h
            case hy17_2 => exact Or.inl ⟨by rfl, fun w hSw => by go_simp <;> (try with_reducible rfl)⟩
            simp only [Act.put, List.setIfInBounds_toArray, List.set_cons_zero, List.set_cons_succ]
            refine wpAnyH_done (by kernel_rfl) ?_ _
            refine NoPanic.normal ?_
            have e0' := cell_keep e0 h8
            have e1' := cell_keep e1 h8
            have e2' := cell_keep e2 h8
            have HAl := Lib.hid hall
            have z8 := h8.size
            clear hall k8 e0 e1 e2
            go_wp2_with fail
            refine Calls.mono (HUj.out _) ?_
            clear HUj
            rintro e w9 ⟨rfl, k9⟩
            have z9 := k9.size
            have K9 := Keeps.trans h8 k9
            have hloA := HAl.out.lt
            have hHal : Rd w9 va al (intF .i64 fun t => slidAt 500 m f C L stay (c j + t)) := by
              have h1 := (HAl.out.keep k9)
              have hlen : ((List.range' (c j) (c (j + 1) - c j)).map (slidAt 500 m f C L stay)).length = al := by simp [hva]
              have h2 : OwnInts w9 w7.heap.size (.slice va ((List.range' (c j) (c (j + 1) - c j)).map (slidAt 500 m f C L stay)).length cl) ((List.range' (c j) (c (j + 1) - c j)).map (slidAt 500 m f C L stay)) := by rw [hlen]; exact h1
              have h3 := h2.rd.1
              rw [hlen] at h3
              refine h3.congr (fun t ht => ?_)
              show Value.int _ (List.getD _ t 0) = Value.int _ _
              rw [List.getD_eq_getElem?_getD, List.getElem?_map, List.getElem?_range' (by omega)]
              simp
            have HRa := Lib.hid hHal
            have HLa := Lib.hid (show ∀ b off, va = some ⟨b, off, none⟩ → w7.heap.size ≤ b ∧ b < w9.heap.size from fun b off e => by
              subst e
              rcases HAl.out.cases_ with ⟨h, _⟩ | ⟨g, cap, h, _⟩
              · cases h
              · simp only [Value.slice.injEq, Option.some.injEq, Addr.mk.injEq, and_true, true_and] at h
                obtain ⟨⟨h1, h2⟩, _⟩ := h
                subst h1
                subst h2
                have h3 : w7.heap.size ≤ b ∧ b < w8.heap.size := hloA b rfl
                omega)
            have hlo7 := HO7.out.lt
            have HO9 := Lib.hid (HO7.out.keep K9)
            have B9 := B7.keep K9
            have KA9 := Keeps.trans k7 K9
            have HLen := Lib.hid hva
            clear hHal HAl hloA p2 p3 HO7 hva e0' e1' e2' HUs HWk
            go_wp2_with fail
            go_loopw [13, 14, 102] (fun nv wd i wr => ∃ k2 : Nat, k2 ≤ al ∧ i = .int .i64 k2 ∧ wd = .int .i64 (sumZ zz (c (j + 1)) - sumZ zz (c j + k2)) ∧ OwnInts wr w6.heap.size nv ((List.range (c j + k2)).map zz) ∧ (∀ kk, nv.ownBlock = some kk → kk < w7.heap.size ∨ w9.heap.size ≤ kk) ∧ Touch (fun kk => w6.heap.size ≤ kk ∧ (kk < w7.heap.size ∨ w9.heap.size ≤ kk)) w9 wr) (fun _ _ i _ => al - (intOf i).toNat)
            case atStart => exact ⟨0, by omega, rfl, by rw [← HUsE.out]; rfl, HO9.out, fun kk e => .inl (hlo7 kk e).2, Touch.refl _ _⟩
            case round =>
              obtain ⟨w10, rfl⟩ : ∃ w10 : World, w10 = wr := ⟨_, rfl⟩
              obtain ⟨k2, hk2, rfl, rfl, hown, hcon, hT⟩ := hrel
              have HO10 := Lib.hid hown
              have HCon := Lib.hid hcon
              have z10 := hT.size
              have B10 := B9.touch hT (fun h => by have := h.1; omega)
              have p2 := B10.c 2 _ rfl
              have p3 := B10.c 3 _ rfl
              have K10 : Keeps w6 w10 := Touch.trans KA9 hT (fun x hx hl => by have := hx.1; omega)
              clear hown hcon
              have hLe1 : c j + al ≤ c (j + 1) := by have := HLen.out; omega
              have hLe2 : c (j + 1) ≤ c j + al := by have := HLen.out; omega
              by_cases hlt2 : k2 < al
              · obtain ⟨b1, o1, hva2, x1⟩ := (HRa.out.keepS hT (fun b off e h => by have := HLa.out b off e; have := h.2; omega)).one hlt2
                subst hva2
                have d1 : w10.cell? ⟨b1, o1 + k2, none⟩ = some (.int .i64 (slidAt 500 m f C L stay (c j + k2))) := x1
                have hci : c j + k2 < k := by omega
                obtain ⟨W, hW⟩ : ∃ W, sumZ zz (c (j + 1)) - sumZ zz (c j + k2) = W := ⟨_, rfl⟩
                have hz1 := HZk.out (c j + k2) hci
                have hWb : -300000 ≤ W ∧ W ≤ 300000 := by
                  have h1 := HZ.out (c (j + 1)) hcjj.2
                  have h2 := HZ.out (c j + k2) (by omega)
                  omega
                have HWe := Lib.hid (show W - zz (c j + k2) = sumZ zz (c (j + 1)) - sumZ zz (c j + (k2 + 1)) from by
                  have : sumZ zz (c j + (k2 + 1)) = sumZ zz (c j + k2) + zz (c j + k2) := rfl
                  omega)
                have HSz3 := Lib.hid (HSz2.out · · (c j + k2) hci)
                have HOz := Lib.hid (show ∀ v' w', OwnInts w' w6.heap.size v' ((List.range (c j + k2)).map zz ++ [zz (c j + k2)]) → OwnInts w' w6.heap.size v' ((List.range (c j + (k2 + 1))).map zz) from fun v' w' h => by
                  rw [← Nat.add_assoc, List.range_succ, List.map_append]; exact h)
                rw [hW]
                have hk2I : (k2 : Int) < al := by omega
                clear x1 hW
                generalize hzi : zz (c j + k2) = zi at *
                have gW : IntKind.i64.wrap (W - zi) = W - zi := IntWalk.i64_in _ ⟨by omega, by omega⟩
                have hl10 : ((List.range (c j + k2)).map zz).length ≤ 100 := by simp; omega
                have HZi := Lib.hid hzi
                clear hzi
                go_wp2_with fail
                refine wp_region_noPanic ?_
                refine wp_region_held_drew (S := (fun w' => Keeps w10 w')) (by kernel_rfl) (Touch.refl _ w10).drew (fun hHeld => ?_)
                refine' wpAnyH_take (i := 0) ?hi0_3 ?hs0_3 ?hf0_3 ?hr0_3 ?hQ0_3 ?hy0_3 (by assumption) ?rest0_3
                case hi0_3 => simp only [List.getElem?_toArray, List.getElem?_cons_zero] <;> rfl
                case hs0_3 => kernel_rfl
                case hf0_3 => kernel_rfl
                case hr0_3 => kernel_rfl
                case hQ0_3 => exact fun _ _ _ h => h
                case hy0_3 => exact Or.inl ⟨by rfl, fun w hSw => by have q0 := cell_keep p2 hSw; have q1 := cell_keep p3 hSw; have q2 := cell_keep d1 hSw; go_simp <;> (try with_reducible rfl)⟩
                simp only [Act.put, List.setIfInBounds_toArray, List.set_cons_zero, List.set_cons_succ]
                refine' wpAnyH_take (i := 1) ?hi1_3 ?hs1_3 ?hf1_3 ?hr1_3 ?hQ1_3 ?hy1_3 (by assumption) ?rest1_3
                case hi1_3 => simp only [List.getElem?_toArray, List.getElem?_cons_succ, List.getElem?_cons_zero] <;> rfl
                case hs1_3 => kernel_rfl
                case hf1_3 => kernel_rfl
                case hr1_3 => kernel_rfl
                case hQ1_3 => exact fun _ _ _ h => h
                case hy1_3 => exact Or.inl ⟨by rfl, fun w hSw => by have q0 := cell_keep p2 hSw; have q1 := cell_keep p3 hSw; have q2 := cell_keep d1 hSw; go_simp <;> (try with_reducible rfl)⟩
                simp only [Act.put, List.setIfInBounds_toArray, List.set_cons_zero, List.set_cons_succ]
                refine' wpAnyH_take (i := 2) ?hi2_3 ?hs2_3 ?hf2_3 ?hr2_3 ?hQ2_3 ?hy2_3 (by assumption) ?rest2_3
                case hi2_3 => simp only [List.getElem?_toArray, List.getElem?_cons_succ, List.getElem?_cons_zero] <;> rfl
                case hs2_3 => kernel_rfl
                case hf2_3 => kernel_rfl
                case hr2_3 => kernel_rfl
                case hQ2_3 => exact fun _ _ _ h => h
                case hy2_3 => exact Or.inl ⟨by rfl, fun w hSw => by have q0 := cell_keep p2 hSw; have q1 := cell_keep p3 hSw; have q2 := cell_keep d1 hSw; go_simp <;> (try with_reducible rfl)⟩
                simp only [Act.put, List.setIfInBounds_toArray, List.set_cons_zero, List.set_cons_succ]
                refine' wpAnyH_take (i := 3) ?hi3_3 ?hs3_3 ?hf3_3 ?hr3_3 ?hQ3_3 ?hy3_3 (by assumption) ?rest3_3
                case hi3_3 => simp only [List.getElem?_toArray, List.getElem?_cons_succ, List.getElem?_cons_zero] <;> rfl
                case hs3_3 => kernel_rfl
                case hf3_3 => kernel_rfl
                case hr3_3 => kernel_rfl
                case hQ3_3 => exact fun _ _ _ h => h
                case hy3_3 => exact Or.inl ⟨by rfl, fun w hSw => by have q0 := cell_keep p2 hSw; have q1 := cell_keep p3 hSw; have q2 := cell_keep d1 hSw; go_simp <;> (try with_reducible rfl)⟩
                simp only [Act.put, List.setIfInBounds_toArray, List.set_cons_zero, List.set_cons_succ]
                refine' wpAnyH_take (i := 4) ?hi4_3 ?hs4_3 ?hf4_3 ?hr4_3 ?hQ4_3 ?hy4_3 (by assumption) ?rest4_3
                case hi4_3 => simp only [List.getElem?_toArray, List.getElem?_cons_succ, List.getElem?_cons_zero] <;> rfl
                case hs4_3 => kernel_rfl
                case hf4_3 => kernel_rfl
                case hr4_3 => kernel_rfl
                case hQ4_3 => exact fun _ _ _ h => h
                case hy4_3 => exact Or.inl ⟨by rfl, fun w hSw => by have q0 := cell_keep p2 hSw; have q1 := cell_keep p3 hSw; have q2 := cell_keep d1 hSw; go_simp <;> (try with_reducible rfl)⟩
                simp only [Act.put, List.setIfInBounds_toArray, List.set_cons_zero, List.set_cons_succ]
                refine' wpAnyH_take (i := 5) ?hi5_3 ?hs5_3 ?hf5_3 ?hr5_3 ?hQ5_3 ?hy5_3 (by assumption) ?rest5_3
                case hi5_3 => simp only [List.getElem?_toArray, List.getElem?_cons_succ, List.getElem?_cons_zero] <;> rfl
                case hs5_3 => kernel_rfl
                case hf5_3 => kernel_rfl
                case hr5_3 => kernel_rfl
                case hQ5_3 => exact fun _ _ _ h => h
                case hy5_3 => exact Or.inl ⟨by rfl, fun w hSw => by have q0 := cell_keep p2 hSw; have q1 := cell_keep p3 hSw; have q2 := cell_keep d1 hSw; go_simp <;> (try with_reducible rfl)⟩
                simp only [Act.put, List.setIfInBounds_toArray, List.set_cons_zero, List.set_cons_succ]
                refine wpAnyH_ready (rs := [6]) (by kernel_rfl) (by simp) ?_
                refine AllReadyH.cons rfl (fun K hK => ?_) AllReadyH.nil
                go_simp
                with_reducible refine Calls.mono (HSz3.out _ (Keeps.trans K10 hHeld)) ?_
                rintro e w11 ⟨rfl, k11⟩
                go_wp2_with fail
                have h11 := Keeps.trans hHeld k11
                refine hK.out _ _ h11 (fun hHeld => ?_)
                clear hK K
                refine' wpAnyH_take (i := 7) ?hi7_3 ?hs7_3 ?hf7_3 ?hr7_3 ?hQ7_3 ?hy7_3 (by assumption) ?rest7_3
                case hi7_3 => simp only [List.getElem?_toArray, List.getElem?_cons_succ, List.getElem?_cons_zero] <;> rfl
                case hs7_3 => kernel_rfl
                case hf7_3 => kernel_rfl
                case hr7_3 => kernel_rfl
                case hQ7_3 => exact fun _ _ _ h => h
                case hy7_3 => exact Or.inl ⟨by rfl, fun w hSw => by go_simp <;> (try with_reducible rfl)⟩
                simp only [Act.put, List.setIfInBounds_toArray, List.set_cons_zero, List.set_cons_succ]
                refine' wpAnyH_take (i := 8) ?hi8_3 ?hs8_3 ?hf8_3 ?hr8_3 ?hQ8_3 ?hy8_3 (by assumption) ?rest8_3
                case hi8_3 => simp only [List.getElem?_toArray, List.getElem?_cons_succ, List.getElem?_cons_zero] <;> rfl
                case hs8_3 => kernel_rfl
                case hf8_3 => kernel_rfl
                case hr8_3 => kernel_rfl
                case hQ8_3 => exact fun _ _ _ h => h
                case hy8_3 => exact Or.inl ⟨by rfl, fun w hSw => by go_simp <;> (try with_reducible rfl)⟩
                simp only [Act.put, List.setIfInBounds_toArray, List.set_cons_zero, List.set_cons_succ]
                refine' wpAnyH_take (i := 9) ?hi9_3 ?hs9_3 ?hf9_3 ?hr9_3 ?hQ9_3 ?hy9_3 (by assumption) ?rest9_3
                case hi9_3 => simp only [List.getElem?_toArray, List.getElem?_cons_succ, List.getElem?_cons_zero] <;> rfl
                case hs9_3 => kernel_rfl
                case hf9_3 => kernel_rfl
                case hr9_3 => kernel_rfl
                case hQ9_3 => exact fun _ _ _ h => h
                case hy9_3 => exact Or.inl ⟨by rfl, fun w hSw => by go_simp <;> (try with_reducible rfl)⟩
                simp only [Act.put, List.setIfInBounds_toArray, List.set_cons_zero, List.set_cons_succ]
                refine' wpAnyH_take (i := 10) ?hi10_3 ?hs10_3 ?hf10_3 ?hr10_3 ?hQ10_3 ?hy10_3 (by assumption) ?rest10_3
                case hi10_3 => simp only [List.getElem?_toArray, List.getElem?_cons_succ, List.getElem?_cons_zero] <;> rfl
                case hs10_3 => kernel_rfl
                case hf10_3 => kernel_rfl
                case hr10_3 => kernel_rfl
                case hQ10_3 => exact fun _ _ _ h => h
                case hy10_3 => exact Or.inl ⟨by rfl, fun w hSw => by go_simp <;> (try with_reducible rfl)⟩
                simp only [Act.put, List.setIfInBounds_toArray, List.set_cons_zero, List.set_cons_succ]
                refine' wpAnyH_take (i := 11) ?hi11_3 ?hs11_3 ?hf11_3 ?hr11_3 ?hQ11_3 ?hy11_3 (by assumption) ?rest11_3
                case hi11_3 => simp only [List.getElem?_toArray, List.getElem?_cons_succ, List.getElem?_cons_zero] <;> rfl
                case hs11_3 => kernel_rfl
                case hf11_3 => kernel_rfl
                case hr11_3 => kernel_rfl
                case hQ11_3 => exact fun _ _ _ h => h
                case hy11_3 => exact Or.inl ⟨by rfl, fun w hSw => by go_simp <;> (try with_reducible rfl)⟩
                simp only [Act.put, List.setIfInBounds_toArray, List.set_cons_zero, List.set_cons_succ]
                refine' wpAnyH_take (i := 12) ?hi12_3 ?hs12_3 ?hf12_3 ?hr12_3 ?hQ12_3 ?hy12_3 (by assumption) ?rest12_3
                case hi12_3 => simp only [List.getElem?_toArray, List.getElem?_cons_succ, List.getElem?_cons_zero] <;> rfl
                case hs12_3 => kernel_rfl
                case hf12_3 => kernel_rfl
                case hr12_3 => kernel_rfl
                case hQ12_3 => exact fun _ _ _ h => h
                case hy12_3 => exact Or.inl ⟨by rfl, fun w hSw => by go_simp <;> (try with_reducible rfl)⟩
                simp only [Act.put, List.setIfInBounds_toArray, List.set_cons_zero, List.set_cons_succ]
                refine' wpAnyH_take (i := 13) ?hi13_3 ?hs13_3 ?hf13_3 ?hr13_3 ?hQ13_3 ?hy13_3 (by assumption) ?rest13_3
                case hi13_3 => simp only [List.getElem?_toArray, List.getElem?_cons_succ, List.getElem?_cons_zero] <;> rfl
                case hs13_3 => kernel_rfl
                case hf13_3 => kernel_rfl
                case hr13_3 => kernel_rfl
                case hQ13_3 => exact fun _ _ _ h => h
                case hy13_3 => exact Or.inl ⟨by rfl, fun w hSw => by go_simp <;> (try with_reducible rfl)⟩
                simp only [Act.put, List.setIfInBounds_toArray, List.set_cons_zero, List.set_cons_succ]
                refine wpAnyH_done (by kernel_rfl) ?_ _
                refine NoPanic.normal ?_
                have HO11 := Lib.hid (HO10.out.keep h11)
                have z11 := h11.size
                go_wp2_with (at_builtin; refine app_int ?_ (.tmp 118) (.tmp 120) ?_ w6.heap.size u13 ((List.range (c j + k2)).map zz) (HO11.out.alloc _) ?_ w11.heap.size zi ?_ (cell_new _ _ _ _ rfl) (by omega) (by simp; omega) ?_; rfl; rfl; rfl; rfl; intro v' w12 hown' hgr hbl; have hlo := HO11.out.lt; have T12 := Touch.grown (Touch.alloc (Touch.trans hT h11 (fun _ h _ => h.elim)) (.cells #[.int .i64 zi] 3)) hgr (fun kk e _ => ⟨(hlo kk e).1, HCon.out kk e⟩); have HC12 := Lib.hid (show ∀ kk, v'.ownBlock = some kk → kk < w7.heap.size ∨ w9.heap.size ≤ kk from fun kk e => by { rcases hbl with h | h; { exact HCon.out kk (h ▸ e) }; { rw [h] at e; simp at e; omega } }); have HO12 := Lib.hid hown'; clear hgr hbl hlo hown')
                go_roundw
                case rel => exact ⟨k2 + 1, by omega, by go_num, by rw [HWe.out], HOz.out _ _ HO12.out, HC12.out, T12⟩
                case measure => simp [intOf]; omega
              · obtain rfl : k2 = al := by omega
                have hw0 : sumZ zz (c (j + 1)) - sumZ zz (c j + k2) = 0 := by
                  rw [show c j + k2 = c (j + 1) by omega]; omega
                rw [hw0]
                have HOe := Lib.hid (show OwnInts w10 w6.heap.size u13 ((List.range (c (j + 1))).map zz) from by
                  have := HO10.out
                  rwa [show c j + k2 = c (j + 1) by omega] at this)
                clear hw0
                go_wp2_with fail
                go_roundw
                case rel => exact ⟨j + 1, by omega, by go_num, rfl, HOe.out, K10⟩
                case measure => simp [intOf]; omega
          · obtain rfl : j = 3 := by omega
            obtain ⟨xa, xc, hx⟩ := HO6.out.form
            obtain ⟨ya, yc, hy⟩ := HO7.out.form
            have hx1 : OwnInts w7 w3.heap.size (.slice xa ((List.range k).map zz).length xc) ((List.range k).map zz) := by have := HO6.out.keep k7; rwa [hx] at this
            have hy1 : OwnInts w7 w6.heap.size (.slice ya ((List.range (c 3)).map zz).length yc) ((List.range (c 3)).map zz) := by have := HO7.out; rwa [hy] at this
            have hl1 : ((List.range k).map zz).length = k := by simp
            have hl2 : ((List.range (c 3)).map zz).length = k := by simp [hc3]
            have g1 := hx1.rd.1
            have g2 := hy1.rd.1
            rw [hl1] at g1 hx
            rw [hl2] at g2 hy
            have HSa := Lib.hid (same_any xa ya k k xc yc _ _ w7 g1 g2 (by omega) (by omega))
            rw [sameB_true (fun i hi => by rw [hc3])] at HSa
            subst hx
            subst hy
            clear hx1 hy1 hl1 hl2 g1 g2 HO6 HO7 hc3 hc3'
            go_wp2_with fail
            refine Calls.mono HSa.out ?_
            rintro e w8 ⟨rfl, k8⟩
            go_wp2_with fail
            go_ret
            exact ⟨rfl, Keeps.trans (Keeps.trans K6 k7) k8⟩

end Go.Proofs.Ytkjgfblkbjlohaa
