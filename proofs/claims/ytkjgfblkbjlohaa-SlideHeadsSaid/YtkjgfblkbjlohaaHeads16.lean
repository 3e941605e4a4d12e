/- The law SlideHeads. -/
import Derived.Test.YtkjgfblkbjlohaaG37
import Derived.Test.YtkjgfblkbjlohaaG41
import Derived.Test.YtkjgfblkbjlohaaHeadsP
import Derived.Test.YtkjgfblkbjlohaaOwnG
import Derived.Test.YtkjgfblkbjlohaaG23
import Derived.BigQuiet
set_option linter.all false

namespace Go.Proofs.Ytkjgfblkbjlohaa
open Go.RowKit

def hdC (h : Hd) : List Value := [.int .i64 h.cls, .int .i64 h.age, .int .i64 h.fwd, .bool h.mark, .bool h.fin, .bool h.done]
theorem hdC_len : ∀ h : Hd, (hdC h).length = 6 := fun _ => rfl
theorem hdC_one : ∀ h : Hd, ∀ u, u ∈ hdC h → u.oneCell' = true := fun h u hu => by
  simp only [hdC, List.mem_cons, List.not_mem_nil, or_false] at hu
  rcases hu with rfl | rfl | rfl | rfl | rfl | rfl <;> rfl
theorem info_rhd : (Try.prog.info? 60).map (fun i => (i.zero, i.size, i.bytes)) = some (some (.agg #[.int .i64 0, .int .i64 0, .int .i64 0, .bool false, .bool false, .bool false]), 6, 32) := by kernel_rfl
set_option maxRecDepth 100000 in
set_option maxHeartbeats 4000000 in
theorem heads_walk (w : World) (Ac : Option Addr) (m cc : Nat) (C : Nat → Cl) (Th : Option Addr) (nt tc : Nat) (T : Nat → Thg) (Rf : Option Addr) (nr rc : Nat) (R : Nat → Int) (Ro : Option Addr) (nz zc : Nat) (Z : Nat → Int) (s0 s1 s2 : Int) (h : WArg w Ac m cc C Th nt T Rf nr R Ro nz Z s0 s1 s2) :
    Calls Try.prog 4 #[.agg #[.slice Ac m cc, .slice Th nt tc, .slice Rf nr rc, .slice Ro nz zc, .int .u8 s0, .int .u8 s1, .int .u8 s2]] w fun e w' => e = .returned (.bool true) ∧ Keeps w w' := by
  have HMd := Lib.hid (show ∀ w', Keeps w w' → Calls Try.prog 8 #[.agg #[.slice Ac m cc, .slice Th nt tc, .slice Rf nr rc, .slice Ro nz zc, .int .u8 s0, .int .u8 s1, .int .u8 s2]] w' (MadeOut Ac m cc C nt T w') from fun w' k => made_any w' Ac m cc C Th nt tc T Rf nr rc R Ro nz zc Z s0 s1 s2 (h.keep k))
  have hzl := zero_life
  have HAw := Lib.hid awake_any
  have HArg := Lib.hid h
  clear h
  go_enter Try.func4, Try.ntmps4
  go_wp2_with fail
  have K1 : Keeps w (w.alloc (.cells #[.slice Ac m cc, .slice Th nt tc, .slice Rf nr rc, .slice Ro nz zc, .int .u8 s0, .int .u8 s1, .int .u8 s2] 28)) := (Touch.refl _ w).alloc _
  refine Calls.mono (HMd.out _ K1) ?_
  clear HMd
  rintro e w2 (⟨rfl, k2⟩ | ⟨ba, bw, f, bt, A, cap, gs, scp, av, sv, rv, L, G, ats, stay, roots, rfl, hM, hfull, ⟨hm, hnt60, hm0⟩, k2⟩)
  · have K2 := Keeps.trans K1 k2
    clear K1 k2
    go_wp2_with fail
    refine Calls.mono (HAw.out _) ?_
    rintro e w3 ⟨rfl, k3⟩
    go_wp2_with fail
    refine Calls.mono (HAw.out _) ?_
    rintro e w4 ⟨rfl, k4⟩
    go_wp2_with fail
    go_ret
    exact ⟨rfl, Keeps.trans (Keeps.trans (Touch.alloc K2 _) k3) k4⟩
  · have K2 := Keeps.trans K1 k2
    obtain ⟨aa, ac, hav⟩ := hM.at_.form
    obtain ⟨sa, sc, hsv⟩ := hM.stay_.form
    obtain ⟨ra, rc', hrv⟩ := hM.roots_.form
    subst hav
    subst hsv
    subst hrv
    have HM := Lib.hid hM
    have HFull := Lib.hid hfull
    have HNtM := Lib.hid (And.intro hnt60 hm0)
    clear hnt60 hm0
    have hal := hM.al
    have hsl := hM.sl
    have hrl := hM.rl
    have z2 := K2.size
    have hlow := hM.low
    have hgs := hM.gs
    have hbl := hM.st.ar.lt1
    have hbwl := hM.st.ar.lt2
    simp only [World.size_alloc] at hlow hgs
    clear K1 k2 hM hfull
    unfold lifeV
    go_wp2_with fail
    refine Calls.mono (HAw.out _) ?_
    rintro e w3 ⟨rfl, k3⟩
    have k23 : Keeps w2 w3 := Keeps.trans ((Touch.refl _ w2).alloc _) k3
    have B3 : BL w3 w2.heap.size 37 [.pointer (some ⟨ba, 0, none⟩), .pointer (some ⟨bt, 0, none⟩), .pointer (some ⟨ba, 0, none⟩), .pointer (some ⟨bt, 0, none⟩), .slice (some ⟨gs, 0, none⟩) 3 scp, .slice aa ats.length ac, .slice sa stay.length sc, .slice ra roots.length rc', .slice Ac m cc] := (BL.new1 w2 37 _ [.pointer (some ⟨ba, 0, none⟩), .pointer (some ⟨bt, 0, none⟩), .pointer (some ⟨ba, 0, none⟩), .pointer (some ⟨bt, 0, none⟩), .slice (some ⟨gs, 0, none⟩) 3 scp, .slice aa ats.length ac, .slice sa stay.length sc, .slice ra roots.length rc', .slice Ac m cc] _ rfl rfl).keep k3
    have HM3 := Lib.hid (HM.out.keep k23)
    have K3 := Keeps.trans K2 k23
    have z3 := k23.size
    have hxl := B3.lt
    clear k3 K2 HM
    have c6 := B3.c 6 _ rfl
    have hst := HM3.out.is.stays
    have hC := HM3.out.st.tb.ok
    have hI := HM3.out.inv
    have hFw := fwd_ok hC hI hst (by omega)
    obtain ⟨HD, hHD⟩ : ∃ HD : Nat → Hd, (fun i => (atT 500 f m C (gt0 stay i)).1.hd) = HD := ⟨_, rfl⟩
    have hHD1 : ∀ i, (atT 500 f m C (gt0 stay i)).1.hd = HD i := fun i => by rw [← hHD]
    have HOk := Lib.hid (show ∀ i, i < stay.length → (HD i).ok from fun i hi => by
      obtain ⟨h, r, d, z, e, _, hok, _⟩ := hst.obj hC hI (by omega) hi
      rw [← hHD1, e]
      exact hok)
    have HHd := Lib.hid (show ∀ k, k < stay.length → ∀ w', St w' ba bw 500 (fwF 500 m f C stay k) bt A m cap C → Calls Try.prog 16 #[.agg #[.pointer (some ⟨ba, 0, none⟩), .pointer (some ⟨bt, 0, none⟩)], .int .i64 (gt0 stay k)] w' fun e w2 => e = .returned (.tuple #[hdV (HD k), .int .i64 0]) ∧ Keeps w' w2 from fun k hk w' hs => by
      have hh := ohead_any ba bw 500 (fwF 500 m f C stay k) bt A m cap C w' hs (gt0 stay k)
      obtain ⟨h, r, d, z, e, hc, _, _⟩ := hst.obj hC hI (by omega) hk
      rw [(hFw k (by omega)).rest k (Nat.le_refl _) hk, objP_same (fun q => by rw [e] at q; exact hc q.2), hHD1, show (atT 500 f m C (gt0 stay k)).2 = 0 by rw [e]] at hh
      exact hh)
    have HSH := Lib.hid (show ∀ k, k < stay.length → ∀ w', St w' ba bw 500 (fwF 500 m f C stay k) bt A m cap C → Calls Try.prog 17 #[.agg #[.pointer (some ⟨ba, 0, none⟩), .pointer (some ⟨bt, 0, none⟩)], .int .i64 (gt0 stay k), hdV (fwH (HD k) k)] w' fun e w2 => e = .returned (.int .i64 0) ∧ St w2 ba bw 500 (fwF 500 m f C stay (k + 1)) bt A m cap C ∧ Only bw w' w2 from fun k hk w' hs => by
      obtain ⟨h, r, d, z, e, hc, _, _⟩ := hst.obj hC hI (by omega) hk
      have e1 : atT 500 (fwF 500 m f C stay k) m C (gt0 stay k) = (⟨h, r, d, z⟩, 0) := by rw [(hFw k (by omega)).rest k (Nat.le_refl _) hk, e]
      have e2 : objP (atT 500 (fwF 500 m f C stay k) m C (gt0 stay k)) = (⟨h, r, d, z⟩, 0) := by rw [e1]; exact objP_same (fun q => hc q.2)
      have hh := sethead_yes ba bw 500 (fwF 500 m f C stay k) bt A m cap C w' hs (gt0 stay k) (fwH (HD k) k) (by rw [e2]) (fwH_ok (HOk.out k hk) (by omega)) (by rw [e2, ← hHD1, e]; rfl)
      have e3 : fwF 500 m f C stay (k + 1) = putF (fwF 500 m f C stay k) (gt0 stay k).toNat (hdW (fwH (HD k) k)) := by
        show putF _ _ (hdW (fwH (atT 500 f m C (gt0 stay k)).1.hd k)) = _
        rw [hHD1]
      rw [e3]
      exact hh)
    obtain ⟨F, hF⟩ : ∃ F, fwF 500 m f C stay stay.length = F := ⟨_, rfl⟩
    have hfw := hFw stay.length (Nat.le_refl _)
    have hI2 := hfw.inv
    have hS2 := hfw.st
    rw [hF] at hI2 hS2
    have HSl := Lib.hid (hS2.slid hC hI2 (by omega))
    have HPo := Lib.hid (show ∀ i, i < stay.length → objP (atT 500 (slidF 500 m F C L stay) m C (slidAt 500 m F C L stay i)) = (⟨(HD i).clean, (atT 500 (slidF 500 m F C L stay) m C (slidAt 500 m F C L stay i)).1.refs, (atT 500 (slidF 500 m F C L stay) m C (slidAt 500 m F C L stay i)).1.data, (atT 500 (slidF 500 m F C L stay) m C (slidAt 500 m F C L stay i)).1.words⟩, 0) from fun i hi => by
      obtain ⟨h, r, d, kx, e1, hc, _, hz, e2⟩ := hS2.post hC hI2 (by omega) hi
      obtain ⟨h', r', d', z', q1, q2, _, q4⟩ := hfw.set_ i hi
      rw [hF, e1] at q4
      have hh : h = fwH h' i := by injection q4 with q4; injection q4
      have hcl : h.clean = (HD i).clean := by rw [hh, ← hHD1, q1]; rfl
      rw [e2, objP_same (fun q => hc q.2), hcl])
    have HW := Lib.hid (hS2.well hC hI2 (by omega))
    have HI2 := Lib.hid hI2
    have HS2 := Lib.hid hS2
    have hst3 := HM3.out.stay_.rd.1
    have HRs := Lib.hid (show Rd w3 sa stay.length (intF .i64 (gt0 stay)) from hst3)
    have HSb := Lib.hid HM3.out.svb
    have HGs := Lib.hid HM3.out.gs
    have HSt0 := Lib.hid (show St w3 ba bw 500 (fwF 500 m f C stay 0) bt A m cap C from HM3.out.st)
    have hxb : ¬ w2.heap.size = bw := by omega
    have HRun := Lib.hid (show ∀ w', Only bw w3 w' → St w' ba bw 500 F bt A m cap C → Calls Try.prog 14 #[.pointer (some ⟨ba, 0, none⟩), .pointer (some ⟨bt, 0, none⟩), .slice (some ⟨gs, 0, none⟩) 3 scp, .slice sa stay.length sc, .slice ra roots.length rc'] w' (RunYes ba bw 500 F bt A m cap C L 3 (gt0 stay) stay.length (gt0 roots) roots.length w') from fun w' kk hs =>
      run_own hs HI2.out (HM3.out.row.at_touch kk HGs.out.2 kk.size) HS2.out (HM3.out.stay_.touch kk (fun q e h => HSb.out q e h)) HSb.out (by omega) (HM3.out.roots_.touch kk (fun q e h => HM3.out.rvb q e h)) HM3.out.rvb (by omega) HM3.out.is.roots scp)
    have HSbb := Lib.hid (show ∀ b off, sa = some ⟨b, off, none⟩ → b ≠ bw from fun b off e => by
      subst e
      rcases HM3.out.stay_.cases_ with ⟨h, _⟩ | ⟨g, cap, h, _⟩
      · cases h
      · simp only [Value.slice.injEq, Option.some.injEq, Addr.mk.injEq, and_true, true_and] at h
        exact HSb.out b (by obtain ⟨⟨rfl, rfl⟩, rfl⟩ := h; rfl))
    obtain ⟨nm, hnm⟩ : ∃ nm, stay.length = nm := ⟨_, rfl⟩
    have HNm := Lib.hid hnm
    rw [hnm] at HSl HPo HRs HRun c6 hsl HHd HSH HOk hF
    have HF := Lib.hid hF
    clear hnm hF hst hC hI hst3 hI2 hS2 hfw hFw hHD hHD1
    have hzh := zero_hd
    go_wp2_with fail
    go_loopw [5, 34] (fun v i wr => ∃ k : Nat, k ≤ nm ∧ i = .int .i64 k ∧ OwnG 60 6 hdC wr w3.heap.size v ((List.range k).map fun i => (HD i).clean) ∧ St wr ba bw 500 (fwF 500 m f C stay k) bt A m cap C ∧ Only bw w3 wr) (fun _ i _ => nm - (intOf i).toNat)
    case atStart => exact ⟨0, by omega, rfl, OwnG.nil_ _ _ _ _ _, HSt0.out, Only.refl _ _⟩
    case round =>
      obtain ⟨w4, rfl⟩ : ∃ w4 : World, w4 = wr := ⟨_, rfl⟩
      obtain ⟨k, hk, rfl, hown, hst4, o4⟩ := hrel
      have HO4 := Lib.hid hown
      have HS4 := Lib.hid hst4
      have z4 := o4.size
      have B4 := B3.touch o4 hxb
      have p2 := B4.c 2 _ rfl
      have p3 := B4.c 3 _ rfl
      have p6 := B4.c 6 _ rfl
      rw [HNm.out] at p6
      clear hown hst4
      by_cases hlt : k < nm
      · obtain ⟨b1, q1, rfl, x1⟩ := (HRs.out.keepS o4 (fun b off e => HSbb.out b off e)).one hlt
        have nD0 := HSbb.out b1 q1 rfl
        have d1 : w4.cell? ⟨b1, q1 + k, none⟩ = some (.int .i64 (gt0 stay k)) := x1
        have hb1 := (HRs.out.keepS o4 (fun b off e => HSbb.out b off e)).lt_ (by omega) rfl
        have HHk := Lib.hid (show ∀ w', Keeps w4 w' → Calls Try.prog 16 #[.agg #[.pointer (some ⟨ba, 0, none⟩), .pointer (some ⟨bt, 0, none⟩)], .int .i64 (gt0 stay k)] w' fun e w2 => e = .returned (.tuple #[hdV (HD k), .int .i64 0]) ∧ Keeps w' w2 from fun w' kk => HHd.out k hlt w' (HS4.out.keep kk))
        have HSk := Lib.hid (HSH.out k hlt)
        have HL := Lib.hid (show ∀ v' w', OwnG 60 6 hdC w' w3.heap.size v' (((List.range k).map fun i => (HD i).clean) ++ [(HD k).clean]) → OwnG 60 6 hdC w' w3.heap.size v' ((List.range (k + 1)).map fun i => (HD i).clean) from fun v' w' h => by
          rw [List.range_succ, List.map_append]; exact h)
        generalize hdk : HD k = g at *
        unfold hdV fwH at HSk
        unfold hdV at HHk
        unfold Hd.clean at HL
        obtain ⟨c, ag, fw, mk, fi, dn⟩ := g
        clear x1 HSl HPo HRun HM3 HW HHd HSH hdk HFull HArg HAw HOk HI2 HS2
        dsimp only at HHk HSk HL
        go_wp2_with fail
        go_cut [7, 8] from 37 to 48 (fun v _ wx => ∃ hb, v = .pointer (some ⟨hb, 0, none⟩) ∧ BL wx hb 56 [.int .i64 c, .int .i64 ag, .int .i64 fw, .bool mk, .bool fi, .bool dn] ∧ w4.heap.size ≤ hb ∧ Keeps w4 wx)
        case first =>
          clear HS4 HSk HL HO4
          have HHd := Lib.hid (HHk.out)
          clear HHk
          refine wp_region_noPanic ?_
          refine wp_region_held_drew (S := (fun w' => Keeps w4 w')) (by kernel_rfl) (Touch.refl _ w4).drew (fun hHeld => ?_)
          refine' wpAnyH_take (i := 0) ?hi0_1 ?hs0_1 ?hf0_1 ?hr0_1 ?hQ0_1 ?hy0_1 (by assumption) ?rest0_1
          case hi0_1 => simp only [List.getElem?_toArray, List.getElem?_cons_zero] <;> rfl
          case hs0_1 => kernel_rfl
          case hf0_1 => kernel_rfl
          case hr0_1 => kernel_rfl
          case hQ0_1 => exact fun _ _ _ h => h
          case hy0_1 => exact Or.inl ⟨by rfl, fun w hSw => by have q0 := cell_keep p2 hSw; have q1 := cell_keep p3 hSw; have q2 := cell_keep p6 hSw; have q3 := cell_keep d1 hSw; go_simp <;> (try with_reducible rfl)⟩
          simp only [Act.put, List.setIfInBounds_toArray, List.set_cons_zero, List.set_cons_succ]
          refine' wpAnyH_take (i := 1) ?hi1_1 ?hs1_1 ?hf1_1 ?hr1_1 ?hQ1_1 ?hy1_1 (by assumption) ?rest1_1
          case hi1_1 => simp only [List.getElem?_toArray, List.getElem?_cons_succ, List.getElem?_cons_zero] <;> rfl
          case hs1_1 => kernel_rfl
          case hf1_1 => kernel_rfl
          case hr1_1 => kernel_rfl
          case hQ1_1 => exact fun _ _ _ h => h
          case hy1_1 => exact Or.inl ⟨by rfl, fun w hSw => by have q0 := cell_keep p2 hSw; have q1 := cell_keep p3 hSw; have q2 := cell_keep p6 hSw; have q3 := cell_keep d1 hSw; go_simp <;> (try with_reducible rfl)⟩
          simp only [Act.put, List.setIfInBounds_toArray, List.set_cons_zero, List.set_cons_succ]
          refine' wpAnyH_take (i := 2) ?hi2_1 ?hs2_1 ?hf2_1 ?hr2_1 ?hQ2_1 ?hy2_1 (by assumption) ?rest2_1
          case hi2_1 => simp only [List.getElem?_toArray, List.getElem?_cons_succ, List.getElem?_cons_zero] <;> rfl
          case hs2_1 => kernel_rfl
          case hf2_1 => kernel_rfl
          case hr2_1 => kernel_rfl
          case hQ2_1 => exact fun _ _ _ h => h
          case hy2_1 => exact Or.inl ⟨by rfl, fun w hSw => by have q0 := cell_keep p2 hSw; have q1 := cell_keep p3 hSw; have q2 := cell_keep p6 hSw; have q3 := cell_keep d1 hSw; go_simp <;> (try with_reducible rfl)⟩
          simp only [Act.put, List.setIfInBounds_toArray, List.set_cons_zero, List.set_cons_succ]
          refine' wpAnyH_take (i := 3) ?hi3_1 ?hs3_1 ?hf3_1 ?hr3_1 ?hQ3_1 ?hy3_1 (by assumption) ?rest3_1
          case hi3_1 => simp only [List.getElem?_toArray, List.getElem?_cons_succ, List.getElem?_cons_zero] <;> rfl
          case hs3_1 => kernel_rfl
          case hf3_1 => kernel_rfl
          case hr3_1 => kernel_rfl
          case hQ3_1 => exact fun _ _ _ h => h
          case hy3_1 => exact Or.inl ⟨by rfl, fun w hSw => by have q0 := cell_keep p2 hSw; have q1 := cell_keep p3 hSw; have q2 := cell_keep p6 hSw; have q3 := cell_keep d1 hSw; go_simp <;> (try with_reducible rfl)⟩
          simp only [Act.put, List.setIfInBounds_toArray, List.set_cons_zero, List.set_cons_succ]
          refine' wpAnyH_take (i := 4) ?hi4_1 ?hs4_1 ?hf4_1 ?hr4_1 ?hQ4_1 ?hy4_1 (by assumption) ?rest4_1
          case hi4_1 => simp only [List.getElem?_toArray, List.getElem?_cons_succ, List.getElem?_cons_zero] <;> rfl
          case hs4_1 => kernel_rfl
          case hf4_1 => kernel_rfl
          case hr4_1 => kernel_rfl
          case hQ4_1 => exact fun _ _ _ h => h
          case hy4_1 => exact Or.inl ⟨by rfl, fun w hSw => by have q0 := cell_keep p2 hSw; have q1 := cell_keep p3 hSw; have q2 := cell_keep p6 hSw; have q3 := cell_keep d1 hSw; go_simp <;> (try with_reducible rfl)⟩
          simp only [Act.put, List.setIfInBounds_toArray, List.set_cons_zero, List.set_cons_succ]
          refine' wpAnyH_take (i := 5) ?hi5_1 ?hs5_1 ?hf5_1 ?hr5_1 ?hQ5_1 ?hy5_1 (by assumption) ?rest5_1
          case hi5_1 => simp only [List.getElem?_toArray, List.getElem?_cons_succ, List.getElem?_cons_zero] <;> rfl
          case hs5_1 => kernel_rfl
          case hf5_1 => kernel_rfl
          case hr5_1 => kernel_rfl
          case hQ5_1 => exact fun _ _ _ h => h
          case hy5_1 => exact Or.inl ⟨by rfl, fun w hSw => by have q0 := cell_keep p2 hSw; have q1 := cell_keep p3 hSw; have q2 := cell_keep p6 hSw; have q3 := cell_keep d1 hSw; go_simp <;> (try with_reducible rfl)⟩
          simp only [Act.put, List.setIfInBounds_toArray, List.set_cons_zero, List.set_cons_succ]
          refine' wpAnyH_take (i := 6) ?hi6_1 ?hs6_1 ?hf6_1 ?hr6_1 ?hQ6_1 ?hy6_1 (by assumption) ?rest6_1
          case hi6_1 => simp only [List.getElem?_toArray, List.getElem?_cons_succ, List.getElem?_cons_zero] <;> rfl
          case hs6_1 => kernel_rfl
          case hf6_1 => kernel_rfl
          case hr6_1 => kernel_rfl
          case hQ6_1 => exact fun _ _ _ h => h
          case hy6_1 => exact Or.inl ⟨by rfl, fun w hSw => by have q0 := cell_keep p2 hSw; have q1 := cell_keep p3 hSw; have q2 := cell_keep p6 hSw; have q3 := cell_keep d1 hSw; go_simp <;> (try with_reducible rfl)⟩
          simp only [Act.put, List.setIfInBounds_toArray, List.set_cons_zero, List.set_cons_succ]
          refine wpAnyH_ready (rs := [7, 11]) (by kernel_rfl) (by simp) ?_
          refine (AllReadyH.cons rfl (fun K hK => ?_) (AllReadyH.cons rfl (fun K hK => ?_) AllReadyH.nil))
          · go_simp
            with_reducible refine Calls.mono (HHd.out _ hHeld) ?_
            rintro e w5 ⟨rfl, k5⟩
            go_wp2_with fail
            have hHeld5 := Keeps.trans hHeld k5
            refine hK.out _ _ hHeld5 (fun hHeld => ?_)
            clear hK K
            refine' wpAnyH_take (i := 8) ?hi8_2 ?hs8_2 ?hf8_2 ?hr8_2 ?hQ8_2 ?hy8_2 (by assumption) ?rest8_2
            case hi8_2 => simp only [List.getElem?_toArray, List.getElem?_cons_succ, List.getElem?_cons_zero] <;> rfl
            case hs8_2 => kernel_rfl
            case hf8_2 => kernel_rfl
            case hr8_2 => kernel_rfl
            case hQ8_2 => exact fun _ _ _ h => h
            case hy8_2 => exact Or.inl ⟨by rfl, fun w hSw => by go_simp <;> (try with_reducible rfl)⟩
            simp only [Act.put, List.setIfInBounds_toArray, List.set_cons_zero, List.set_cons_succ]
            refine' wpAnyH_take (i := 9) ?hi9_2 ?hs9_2 ?hf9_2 ?hr9_2 ?hQ9_2 ?hy9_2 (by assumption) ?rest9_2
            case hi9_2 => simp only [List.getElem?_toArray, List.getElem?_cons_succ, List.getElem?_cons_zero] <;> rfl
            case hs9_2 => kernel_rfl
            case hf9_2 => kernel_rfl
            case hr9_2 => kernel_rfl
            case hQ9_2 => exact fun _ _ _ h => h
            case hy9_2 => exact Or.inl ⟨by rfl, fun w hSw => by go_simp <;> (try with_reducible rfl)⟩
            simp only [Act.put, List.setIfInBounds_toArray, List.set_cons_zero, List.set_cons_succ]
            refine' wpAnyH_take (i := 10) ?hi10_2 ?hs10_2 ?hf10_2 ?hr10_2 ?hQ10_2 ?hy10_2 (by assumption) ?rest10_2
            case hi10_2 => simp only [List.getElem?_toArray, List.getElem?_cons_succ, List.getElem?_cons_zero] <;> rfl
            case hs10_2 => kernel_rfl
            case hf10_2 => kernel_rfl
            case hr10_2 => kernel_rfl
            case hQ10_2 => exact fun _ _ _ h => h
            case hy10_2 => exact Or.inl ⟨by rfl, fun w hSw => by go_simp <;> (try with_reducible rfl)⟩
            simp only [Act.put, List.setIfInBounds_toArray, List.set_cons_zero, List.set_cons_succ]
            refine wpAnyH_ready (rs := [11]) (by kernel_rfl) (by simp) ?_
            refine (AllReadyH.cons rfl (fun K hK => ?_) AllReadyH.nil)
            go_simp
            refine hK.out _ _ (Touch.alloc hHeld5 _) (fun hHeld => ?_)
            clear hK K
            refine wpAnyH_ready (rs := [12]) (by kernel_rfl) (by simp) ?_
            refine (AllReadyH.cons rfl (fun K hK => ?_) AllReadyH.nil)
            go_simp
            refine hK.out _ _ (Touch.alloc hHeld5 _) (fun hHeld => ?_)
            clear hK K
            refine' wpAnyH_take (i := 13) ?hi13_3 ?hs13_3 ?hf13_3 ?hr13_3 ?hQ13_3 ?hy13_3 (by assumption) ?rest13_3
            case hi13_3 => simp only [List.getElem?_toArray, List.getElem?_cons_succ, List.getElem?_cons_zero] <;> rfl
            case hs13_3 => kernel_rfl
            case hf13_3 => kernel_rfl
            case hr13_3 => kernel_rfl
            case hQ13_3 => exact fun _ _ _ h => h
            case hy13_3 => exact Or.inl ⟨by rfl, fun w hSw => by go_simp <;> (try with_reducible rfl)⟩
            simp only [Act.put, List.setIfInBounds_toArray, List.set_cons_zero, List.set_cons_succ]
            refine wpAnyH_done (by kernel_rfl) ?_ _
            refine NoPanic.normal ?_
            go_wp2_with fail
            go_meet
            exact ⟨w5.heap.size, rfl, BL.new1 w5 56 _ [.int .i64 c, .int .i64 ag, .int .i64 fw, .bool mk, .bool fi, .bool dn] _ rfl rfl, hHeld5.size, hHeld⟩
          · go_simp
            have ka : Keeps w4 ((w4.drew).alloc (.cells (#[.int .i64 0, .int .i64 0, .int .i64 0, .bool false, .bool false, .bool false]) 56)) := Touch.alloc hHeld _
            have B0 : BL ((w4.drew).alloc (.cells (#[.int .i64 0, .int .i64 0, .int .i64 0, .bool false, .bool false, .bool false]) 56)) w4.heap.size 56 [.int .i64 0, .int .i64 0, .int .i64 0, .bool false, .bool false, .bool false] := BL.new1 _ _ _ [.int .i64 0, .int .i64 0, .int .i64 0, .bool false, .bool false, .bool false] _ rfl rfl
            refine hK.out _ _ ka (fun hHeld => ?_)
            clear hK K
            refine wpAnyH_ready (rs := [7]) (by kernel_rfl) (by simp) ?_
            refine (AllReadyH.cons rfl (fun K hK => ?_) AllReadyH.nil)
            go_simp
            with_reducible refine Calls.mono (HHd.out _ hHeld) ?_
            rintro e w5 ⟨rfl, k5⟩
            go_wp2_with fail
            have hHeld5 := Keeps.trans hHeld k5
            refine hK.out _ _ hHeld5 (fun hHeld => ?_)
            clear hK K
            refine' wpAnyH_take (i := 8) ?hi8_4 ?hs8_4 ?hf8_4 ?hr8_4 ?hQ8_4 ?hy8_4 (by assumption) ?rest8_4
            case hi8_4 => simp only [List.getElem?_toArray, List.getElem?_cons_succ, List.getElem?_cons_zero] <;> rfl
            case hs8_4 => kernel_rfl
            case hf8_4 => kernel_rfl
            case hr8_4 => kernel_rfl
            case hQ8_4 => exact fun _ _ _ h => h
            case hy8_4 => exact Or.inl ⟨by rfl, fun w hSw => by go_simp <;> (try with_reducible rfl)⟩
            simp only [Act.put, List.setIfInBounds_toArray, List.set_cons_zero, List.set_cons_succ]
            refine' wpAnyH_take (i := 9) ?hi9_4 ?hs9_4 ?hf9_4 ?hr9_4 ?hQ9_4 ?hy9_4 (by assumption) ?rest9_4
            case hi9_4 => simp only [List.getElem?_toArray, List.getElem?_cons_succ, List.getElem?_cons_zero] <;> rfl
            case hs9_4 => kernel_rfl
            case hf9_4 => kernel_rfl
            case hr9_4 => kernel_rfl
            case hQ9_4 => exact fun _ _ _ h => h
            case hy9_4 => exact Or.inl ⟨by rfl, fun w hSw => by go_simp <;> (try with_reducible rfl)⟩
            simp only [Act.put, List.setIfInBounds_toArray, List.set_cons_zero, List.set_cons_succ]
            refine' wpAnyH_take (i := 10) ?hi10_4 ?hs10_4 ?hf10_4 ?hr10_4 ?hQ10_4 ?hy10_4 (by assumption) ?rest10_4
            case hi10_4 => simp only [List.getElem?_toArray, List.getElem?_cons_succ, List.getElem?_cons_zero] <;> rfl
            case hs10_4 => kernel_rfl
            case hf10_4 => kernel_rfl
            case hr10_4 => kernel_rfl
            case hQ10_4 => exact fun _ _ _ h => h
            case hy10_4 => exact Or.inl ⟨by rfl, fun w hSw => by go_simp <;> (try with_reducible rfl)⟩
            simp only [Act.put, List.setIfInBounds_toArray, List.set_cons_zero, List.set_cons_succ]
            refine wpAnyH_ready (rs := [12]) (by kernel_rfl) (by simp) ?_
            refine (AllReadyH.cons rfl (fun K hK => ?_) AllReadyH.nil)
            rw [if_pos (show Region.wanted _ _ = true from rfl)]
            refine wp_store_bl 56 (.tmp 7) (.tmp 46) rfl (BL.keep B0 k5) rfl [.int .i64 c, .int .i64 ag, .int .i64 fw, .bool mk, .bool fi, .bool dn] rfl sz_hd rfl rfl ?_
            intro X BX kX
            refine hK.out _ _ (Touch.new hHeld5 kX (Nat.le_refl _)) (fun hHeld => ?_)
            clear hK K
            simp only [Act.put, List.setIfInBounds_toArray, List.set_cons_zero, List.set_cons_succ]
            refine' wpAnyH_take (i := 13) ?hi13_5 ?hs13_5 ?hf13_5 ?hr13_5 ?hQ13_5 ?hy13_5 (by assumption) ?rest13_5
            case hi13_5 => simp only [List.getElem?_toArray, List.getElem?_cons_succ, List.getElem?_cons_zero] <;> rfl
            case hs13_5 => kernel_rfl
            case hf13_5 => kernel_rfl
            case hr13_5 => kernel_rfl
            case hQ13_5 => exact fun _ _ _ h => h
            case hy13_5 => exact Or.inl ⟨by rfl, fun w hSw => by go_simp <;> (try with_reducible rfl)⟩
            simp only [Act.put, List.setIfInBounds_toArray, List.set_cons_zero, List.set_cons_succ]
            refine wpAnyH_done (by kernel_rfl) ?_ _
            refine NoPanic.normal ?_
            go_wp2_with fail
            go_meet
            exact ⟨w4.heap.size, rfl, BX, Nat.le_refl _, hHeld⟩
        case rest =>
        obtain ⟨w5, rfl⟩ : ∃ w5 : World, w5 = wc := ⟨_, rfl⟩
        obtain ⟨hb, rfl, B5, hhb, k5⟩ := hcut
        have hhl := B5.lt
        have z5 := k5.size
        have h2 := B5.c 2 _ rfl
        have fz2 := B5.fz 2
        have B45 := B4.keep k5
        have d5 := cell_keep d1 k5
        clear HHk p2 p3 p6 d1
        go_upto_region 10 with fail
        refine named_code (fun w6 hW6 => ?_)
        have B6 : BL w6 hb 56 [.int .i64 c, .int .i64 ag, .int .i64 k, .bool mk, .bool fi, .bool dn] := by rw [hW6]; exact BL.set B5 2 (.int .i64 k)
        have O6 : Only hb w5 w6 := by rw [hW6]; exact Touch.set (Only.refl hb w5) 2 _
        have z6 := O6.size
        have nX : ¬ w2.heap.size = bw := hxb
        have nD : ¬ b1 = bw := nD0
        have nH : ¬ hb = bw := by omega
        have BX6 := B45.touch O6 (show ¬ w2.heap.size = hb by omega)
        have p2 := BX6.c 2 _ rfl
        have p3 := BX6.c 3 _ rfl
        have p6 := BX6.c 6 _ rfl
        rw [HNm.out] at p6
        have d1 := cell_only d5 O6 (show ¬ b1 = hb by omega)
        have h0 := B6.c 0 _ rfl
        have h1 := B6.c 1 _ rfl
        have h2 := B6.c 2 _ rfl
        have h3 := B6.c 3 _ rfl
        have h4 := B6.c 4 _ rfl
        have h5 := B6.c 5 _ rfl
        have HS6 := Lib.hid (HS4.out.keep (Keeps.new k5 O6 hhb))
        have HSH := Lib.hid (fun w' kk => HSk.out w' (HS6.out.keep kk))
        have K6 : Keeps w4 w6 := Keeps.new k5 O6 hhb
        clear hW6 HS4 HS6 HSk d5 B45 B5 fz2
        refine wp_region_noPanic ?_
        refine wp_region_held_drew (S := (fun w' => Only bw w6 w')) (by kernel_rfl) (Only.refl _ w6).drew (fun hHeld => ?_)
        refine' wpAnyH_take (i := 0) ?hi0_6 ?hs0_6 ?hf0_6 ?hr0_6 ?hQ0_6 ?hy0_6 (by assumption) ?rest0_6
        case hi0_6 => simp only [List.getElem?_toArray, List.getElem?_cons_zero] <;> rfl
        case hs0_6 => kernel_rfl
        case hf0_6 => kernel_rfl
        case hr0_6 => kernel_rfl
        case hQ0_6 => exact fun _ _ _ h => h
        case hy0_6 => exact Or.inl ⟨by rfl, fun w hSw => by have q0 := cell_only p2 hSw nX; have q1 := cell_only p3 hSw nX; have q2 := cell_only p6 hSw nX; have q3 := cell_only d1 hSw nD; have u0 := cell_only h0 hSw nH; have u1 := cell_only h1 hSw nH; have u2 := cell_only h2 hSw nH; have u3 := cell_only h3 hSw nH; have u4 := cell_only h4 hSw nH; have u5 := cell_only h5 hSw nH; go_simp <;> (try with_reducible rfl)⟩
        simp only [Act.put, List.setIfInBounds_toArray, List.set_cons_zero, List.set_cons_succ]
        refine' wpAnyH_take (i := 1) ?hi1_6 ?hs1_6 ?hf1_6 ?hr1_6 ?hQ1_6 ?hy1_6 (by assumption) ?rest1_6
        case hi1_6 => simp only [List.getElem?_toArray, List.getElem?_cons_succ, List.getElem?_cons_zero] <;> rfl
        case hs1_6 => kernel_rfl
        case hf1_6 => kernel_rfl
        case hr1_6 => kernel_rfl
        case hQ1_6 => exact fun _ _ _ h => h
        case hy1_6 => exact Or.inl ⟨by rfl, fun w hSw => by have q0 := cell_only p2 hSw nX; have q1 := cell_only p3 hSw nX; have q2 := cell_only p6 hSw nX; have q3 := cell_only d1 hSw nD; have u0 := cell_only h0 hSw nH; have u1 := cell_only h1 hSw nH; have u2 := cell_only h2 hSw nH; have u3 := cell_only h3 hSw nH; have u4 := cell_only h4 hSw nH; have u5 := cell_only h5 hSw nH; go_simp <;> (try with_reducible rfl)⟩
        simp only [Act.put, List.setIfInBounds_toArray, List.set_cons_zero, List.set_cons_succ]
        refine' wpAnyH_take (i := 2) ?hi2_6 ?hs2_6 ?hf2_6 ?hr2_6 ?hQ2_6 ?hy2_6 (by assumption) ?rest2_6
        case hi2_6 => simp only [List.getElem?_toArray, List.getElem?_cons_succ, List.getElem?_cons_zero] <;> rfl
        case hs2_6 => kernel_rfl
        case hf2_6 => kernel_rfl
        case hr2_6 => kernel_rfl
        case hQ2_6 => exact fun _ _ _ h => h
        case hy2_6 => exact Or.inl ⟨by rfl, fun w hSw => by have q0 := cell_only p2 hSw nX; have q1 := cell_only p3 hSw nX; have q2 := cell_only p6 hSw nX; have q3 := cell_only d1 hSw nD; have u0 := cell_only h0 hSw nH; have u1 := cell_only h1 hSw nH; have u2 := cell_only h2 hSw nH; have u3 := cell_only h3 hSw nH; have u4 := cell_only h4 hSw nH; have u5 := cell_only h5 hSw nH; go_simp <;> (try with_reducible rfl)⟩
        simp only [Act.put, List.setIfInBounds_toArray, List.set_cons_zero, List.set_cons_succ]
        refine' wpAnyH_take (i := 3) ?hi3_6 ?hs3_6 ?hf3_6 ?hr3_6 ?hQ3_6 ?hy3_6 (by assumption) ?rest3_6
        case hi3_6 => simp only [List.getElem?_toArray, List.getElem?_cons_succ, List.getElem?_cons_zero] <;> rfl
        case hs3_6 => kernel_rfl
        case hf3_6 => kernel_rfl
        case hr3_6 => kernel_rfl
        case hQ3_6 => exact fun _ _ _ h => h
        case hy3_6 => exact Or.inl ⟨by rfl, fun w hSw => by have q0 := cell_only p2 hSw nX; have q1 := cell_only p3 hSw nX; have q2 := cell_only p6 hSw nX; have q3 := cell_only d1 hSw nD; have u0 := cell_only h0 hSw nH; have u1 := cell_only h1 hSw nH; have u2 := cell_only h2 hSw nH; have u3 := cell_only h3 hSw nH; have u4 := cell_only h4 hSw nH; have u5 := cell_only h5 hSw nH; go_simp <;> (try with_reducible rfl)⟩
        simp only [Act.put, List.setIfInBounds_toArray, List.set_cons_zero, List.set_cons_succ]
        refine' wpAnyH_take (i := 4) ?hi4_6 ?hs4_6 ?hf4_6 ?hr4_6 ?hQ4_6 ?hy4_6 (by assumption) ?rest4_6
        case hi4_6 => simp only [List.getElem?_toArray, List.getElem?_cons_succ, List.getElem?_cons_zero] <;> rfl
        case hs4_6 => kernel_rfl
        case hf4_6 => kernel_rfl
        case hr4_6 => kernel_rfl
        case hQ4_6 => exact fun _ _ _ h => h
        case hy4_6 => exact Or.inl ⟨by rfl, fun w hSw => by have q0 := cell_only p2 hSw nX; have q1 := cell_only p3 hSw nX; have q2 := cell_only p6 hSw nX; have q3 := cell_only d1 hSw nD; have u0 := cell_only h0 hSw nH; have u1 := cell_only h1 hSw nH; have u2 := cell_only h2 hSw nH; have u3 := cell_only h3 hSw nH; have u4 := cell_only h4 hSw nH; have u5 := cell_only h5 hSw nH; go_simp <;> (try with_reducible rfl)⟩
        simp only [Act.put, List.setIfInBounds_toArray, List.set_cons_zero, List.set_cons_succ]
        refine' wpAnyH_take (i := 5) ?hi5_6 ?hs5_6 ?hf5_6 ?hr5_6 ?hQ5_6 ?hy5_6 (by assumption) ?rest5_6
        case hi5_6 => simp only [List.getElem?_toArray, List.getElem?_cons_succ, List.getElem?_cons_zero] <;> rfl
        case hs5_6 => kernel_rfl
        case hf5_6 => kernel_rfl
        case hr5_6 => kernel_rfl
        case hQ5_6 => exact fun _ _ _ h => h
        case hy5_6 => exact Or.inl ⟨by rfl, fun w hSw => by have q0 := cell_only p2 hSw nX; have q1 := cell_only p3 hSw nX; have q2 := cell_only p6 hSw nX; have q3 := cell_only d1 hSw nD; have u0 := cell_only h0 hSw nH; have u1 := cell_only h1 hSw nH; have u2 := cell_only h2 hSw nH; have u3 := cell_only h3 hSw nH; have u4 := cell_only h4 hSw nH; have u5 := cell_only h5 hSw nH; go_simp <;> (try with_reducible rfl)⟩
        simp only [Act.put, List.setIfInBounds_toArray, List.set_cons_zero, List.set_cons_succ]
        refine' wpAnyH_take (i := 6) ?hi6_6 ?hs6_6 ?hf6_6 ?hr6_6 ?hQ6_6 ?hy6_6 (by assumption) ?rest6_6
        case hi6_6 => simp only [List.getElem?_toArray, List.getElem?_cons_succ, List.getElem?_cons_zero] <;> rfl
        case hs6_6 => kernel_rfl
        case hf6_6 => kernel_rfl
        case hr6_6 => kernel_rfl
        case hQ6_6 => exact fun _ _ _ h => h
        case hy6_6 => exact Or.inl ⟨by rfl, fun w hSw => by have q0 := cell_only p2 hSw nX; have q1 := cell_only p3 hSw nX; have q2 := cell_only p6 hSw nX; have q3 := cell_only d1 hSw nD; have u0 := cell_only h0 hSw nH; have u1 := cell_only h1 hSw nH; have u2 := cell_only h2 hSw nH; have u3 := cell_only h3 hSw nH; have u4 := cell_only h4 hSw nH; have u5 := cell_only h5 hSw nH; go_simp <;> (try with_reducible rfl)⟩
        simp only [Act.put, List.setIfInBounds_toArray, List.set_cons_zero, List.set_cons_succ]
        refine' wpAnyH_take (i := 7) ?hi7_6 ?hs7_6 ?hf7_6 ?hr7_6 ?hQ7_6 ?hy7_6 (by assumption) ?rest7_6
        case hi7_6 => simp only [List.getElem?_toArray, List.getElem?_cons_succ, List.getElem?_cons_zero] <;> rfl
        case hs7_6 => kernel_rfl
        case hf7_6 => kernel_rfl
        case hr7_6 => kernel_rfl
        case hQ7_6 => exact fun _ _ _ h => h
        case hy7_6 => exact Or.inl ⟨by rfl, fun w hSw => by have q0 := cell_only p2 hSw nX; have q1 := cell_only p3 hSw nX; have q2 := cell_only p6 hSw nX; have q3 := cell_only d1 hSw nD; have u0 := cell_only h0 hSw nH; have u1 := cell_only h1 hSw nH; have u2 := cell_only h2 hSw nH; have u3 := cell_only h3 hSw nH; have u4 := cell_only h4 hSw nH; have u5 := cell_only h5 hSw nH; go_simp <;> (try with_reducible rfl)⟩
        simp only [Act.put, List.setIfInBounds_toArray, List.set_cons_zero, List.set_cons_succ]
        refine wpAnyH_ready (rs := [8]) (by kernel_rfl) (by simp) ?_
        refine AllReadyH.cons rfl (fun K hK => ?_) AllReadyH.nil
        go_simp
        with_reducible refine Calls.mono (HSH.out _ (Touch.drew (Touch.refl (fun _ => False) w6))) ?_
        rintro e w7 ⟨rfl, hS7, o7⟩
        go_wp2_with fail
        have h7 := hHeld.trans_ o7
        refine hK.out _ _ h7 (fun hHeld => ?_)
        clear hK K
        refine' wpAnyH_take (i := 9) ?hi9_6 ?hs9_6 ?hf9_6 ?hr9_6 ?hQ9_6 ?hy9_6 (by assumption) ?rest9_6
        case hi9_6 => simp only [List.getElem?_toArray, List.getElem?_cons_succ, List.getElem?_cons_zero] <;> rfl
        case hs9_6 => kernel_rfl
        case hf9_6 => kernel_rfl
        case hr9_6 => kernel_rfl
        case hQ9_6 => exact fun _ _ _ h => h
        case hy9_6 => exact Or.inl ⟨by rfl, fun w hSw => by go_simp <;> (try with_reducible rfl)⟩
        simp only [Act.put, List.setIfInBounds_toArray, List.set_cons_zero, List.set_cons_succ]
        refine wpAnyH_done (by kernel_rfl) ?_ _
        refine NoPanic.normal ?_
        have O7 : Only bw w6 w7 := h7
        have B7 := B6.touch O7 nH
        have z7 := O7.size
        have h2 := B7.c 2 _ rfl
        have h3 := B7.c 3 _ rfl
        have fz2 := B7.fz 2
        have fz3 := B7.fz 3
        have HS7 := Lib.hid hS7
        have HO7 := Lib.hid ((HO4.out.keep K6).touch O7 (fun q e h => by have := HO4.out.lt q e; omega))
        have OO7 : Only bw w3 w7 := Touch.trans (Touch.keep o4 K6) O7 (fun x hx _ => hx)
        clear hS7 o7 p2 p3 p6 d1 h0 h1 h4 h5 B6 hHeld h7
        go_upto_region 13 with fail
        refine named_code (fun w8 hW8 => ?_)
        have B8 : BL w8 hb 56 [.int .i64 c, .int .i64 ag, .int .i64 0, .bool false, .bool fi, .bool dn] := by rw [hW8]; exact BL.set (BL.set B7 3 (.bool false)) 2 (.int .i64 0)
        have O8 : Only hb w7 w8 := by rw [hW8]; exact Touch.set (Touch.set (Only.refl hb w7) 3 _) 2 _
        have z8 := O8.size
        have h0 := B8.c 0 _ rfl
        have h1 := B8.c 1 _ rfl
        have h2 := B8.c 2 _ rfl
        have h3 := B8.c 3 _ rfl
        have h4 := B8.c 4 _ rfl
        have h5 := B8.c 5 _ rfl
        have HO8 := Lib.hid (HO7.out.touch O8 (fun q e h => by have := HO4.out.lt q e; omega))
        have HS8 := Lib.hid (HSt0.out.fresh HS7.out O8 (fun kk (e : kk = hb) => by omega))
        have OO8 : Only bw w3 w8 := Touch.trans OO7 O8 (fun x (hx : x = hb) hl => by omega)
        clear hW8 HS7 HO7 fz2 fz3
        go_wp2_with (at_builtin; refine app_g hdC_len hdC_one (by decide) (by decide) rfl Try.underlying54 info_rhd rfl (.tmp 62) (.tmp 64) rfl w3.heap.size u5 ((List.range k).map fun i => (HD i).clean) ⟨c, ag, 0, false, fi, dn⟩ (HO8.out.alloc _) rfl w8.heap.size rfl (fun j u hj => (BL.new1 w8 _ _ (hdC ⟨c, ag, 0, false, fi, dn⟩) _ rfl rfl).c j u hj) (by simp; omega) (by simp; omega) ?_; intro v' w9 hown' hgr hbl; have hlo := HO8.out.lt; have O9 : Only bw w3 w9 := Touch.grown (Touch.alloc OO8 _) hgr (fun kk e h => by have := (hlo kk e).1; omega); have HO9 := Lib.hid hown'; have HS9 := Lib.hid (HSt0.out.fresh HS8.out (Touch.grown (S := fun kk => u5.ownBlock = some kk) (Touch.alloc (Touch.refl _ w8) _) hgr (fun kk e _ => e)) (fun kk e => (hlo kk e).1)); clear hgr hbl hlo hown')
        go_roundw
        case rel => exact ⟨k + 1, by omega, by go_num, HL.out _ _ HO9.out, HS9.out, O9⟩
        case measure => simp [intOf]; omega
      · obtain rfl : k = nm := by omega
        have c0 := B4.c 0 _ rfl
        have c1 := B4.c 1 _ rfl
        have c4 := B4.c 4 _ rfl
        have c7 := B4.c 7 _ rfl
        have hs4 := HS4.out
        rw [HF.out] at hs4
        have HRn := Lib.hid (HRun.out _ o4 hs4)
        clear p2 p3 hs4 HRun HHd HSH
        go_wp2_with fail
        refine Calls.mono HRn.out ?_
        clear HRn
        rintro e w6 ⟨v, ad, cp, rfl, hown, hnow, hst6, o6⟩
        have O36 : Only bw w3 w6 := Touch.trans o4 o6 (fun x hx _ => hx)
        have K6 := K3.new O36 (by omega)
        have B6 := B4.touch o6 hxb
        have HO6 := Lib.hid (HO4.out.touch o6 (fun q e h => by have := HO4.out.lt q e; omega))
        have HSt6 := Lib.hid hst6
        have hnr := hnow.rd
        rw [HNm.out.symm] at hnr
        have hnr2 : Rd w6 ad (3 * 3) (spF (slidNow 500 m F C L stay)) := hnr
        have HNr := Lib.hid hnr2
        obtain ⟨c, hc0, hc3, hcj⟩ := HSl.out
        have HCj := Lib.hid hcj
        have hc3' := hc3
        have HSt7 := Lib.hid (show St w6 ba bw 500 (slidF 500 m F C L stay) bt A m cap C from by have := HSt6.out; rw [HNm.out.symm] at this; exact this)
        have HWk := Lib.hid (show ∀ w', Keeps w6 w' → ∀ j, j < 3 → Calls Try.prog 18 #[.agg #[.pointer (some ⟨ba, 0, none⟩), .pointer (some ⟨bt, 0, none⟩)], .int .i64 (L j).f, .int .i64 (slidNow 500 m F C L stay j).t] w' fun e w2 => ∃ va al cl, e = .returned (.tuple #[.slice va al cl, .int .i64 0]) ∧ al = c (j + 1) - c j ∧ OwnInts w2 w'.heap.size (.slice va al cl) ((List.range' (c j) (c (j + 1) - c j)).map (slidAt 500 m F C L stay)) ∧ Keeps w' w2 from fun w' kk j hj => by
          have hb := (HW.out.right hj)
          have hb2 := (rightB_iff _).1 hb
          refine Calls.mono (walk_any ba bw 500 (slidF 500 m F C L stay) bt A m cap C w' (HSt7.out.keep kk) (L j).f (slidNow 500 m F C L stay j).t (by unfold slidNow; omega)) ?_
          rintro e w2 ⟨v, l, x, rfl, hw, ho, k2⟩
          obtain ⟨rfl, rfl⟩ := hw.same (HCj.out j hj).2.1.walk
          obtain ⟨va, cl, hv⟩ := ho.form
          subst hv
          refine ⟨va, _, cl, rfl, by simp, ho, k2⟩)
        have HHd2 := Lib.hid (show ∀ i, i < k → ∀ w', Keeps w6 w' → Calls Try.prog 16 #[.agg #[.pointer (some ⟨ba, 0, none⟩), .pointer (some ⟨bt, 0, none⟩)], .int .i64 (slidAt 500 m F C L stay i)] w' fun e w2 => e = .returned (.tuple #[hdV (HD i).clean, .int .i64 0]) ∧ Keeps w' w2 from fun i hi w' kk => by
          have hh := ohead_any ba bw 500 (slidF 500 m F C L stay) bt A m cap C w' (HSt7.out.keep kk) (slidAt 500 m F C L stay i)
          rw [HPo.out i hi] at hh
          exact hh)
        have hcm : ∀ j, j < 3 → c j ≤ c (j + 1) := fun j hj => (HCj.out j hj).1
        have HCb := Lib.hid (show ∀ j, j < 3 → c j ≤ c (j + 1) ∧ c (j + 1) ≤ k from fun j hj => by
          refine ⟨hcm j hj, ?_⟩
          have h1 : c 0 ≤ c 1 := hcm 0 (by omega)
          have h2 : c 1 ≤ c 2 := hcm 1 (by omega)
          have h3 : c 2 ≤ c 3 := hcm 2 (by omega)
          rcases (by omega : j = 0 ∨ j = 1 ∨ j = 2) with rfl | rfl | rfl <;> (simp only [Nat.zero_add, Nat.reduceAdd]; omega))
        have hfe : ∀ j, j < 3 → (slidNow 500 m F C L stay j).f = (L j).f ∧ (slidNow 500 m F C L stay j).e = (L j).e := fun j _ => sts_fe (L := L) (n := 3) (Z := zOf (atT 500 F m C) (gt0 stay)) stay.length j
        have HFe := Lib.hid hfe
        have hoF := HO6.out.form
        obtain ⟨oa, oc, hoa⟩ := hoF
        have hol : ((List.range k).map fun i => (HD i).clean).length = k := by simp
        rw [hol] at hoa
        subst hoa
        have hcI : (c 3 : Int) = k := by omega
        clear hown hnow hst6 hnr hnr2 hcj hcm hfe c0 c1 c4 c7 p6 HSt6 HSl HO4 hol HM3 HS4 hcI
        go_wp2_with fail
        go_loopw [12, 86] (fun nv i wr => ∃ j : Nat, j ≤ 3 ∧ i = .int .i64 j ∧ nv = .int .i64 (c j) ∧ Keeps w6 wr) (fun _ i _ => 3 - (intOf i).toNat)
        case atStart => exact ⟨0, by omega, rfl, by rw [hc0]; rfl, Touch.refl _ _⟩
        case round =>
          obtain ⟨w7, rfl⟩ : ∃ w7 : World, w7 = wr := ⟨_, rfl⟩
          obtain ⟨j, hj, rfl, rfl, k7⟩ := hrel
          have z7 := k7.size
          have B7 := B6.keep k7
          have p2 := B7.c 2 _ rfl
          have p3 := B7.c 3 _ rfl
          by_cases hlt : j < 3
          · obtain ⟨b, o, rfl, e0, e1, e2⟩ := (HNr.out.keep k7).sp hlt
            rw [(HFe.out j hlt).1] at e0
            have hltI : (j : Int) < 3 := by omega
            have hcjj := HCb.out j hlt
            clear e2
            go_wp2_with fail
            refine wp_region_noPanic ?_
            refine wp_region_held_drew (S := (fun w' => Keeps w7 w')) (by kernel_rfl) (Touch.refl _ w7).drew (fun hHeld => ?_)
            refine' wpAnyH_take (i := 0) ?hi0_7 ?hs0_7 ?hf0_7 ?hr0_7 ?hQ0_7 ?hy0_7 (by assumption) ?rest0_7
            case hi0_7 => simp only [List.getElem?_toArray, List.getElem?_cons_zero] <;> rfl
            case hs0_7 => kernel_rfl
            case hf0_7 => kernel_rfl
            case hr0_7 => kernel_rfl
            case hQ0_7 => exact fun _ _ _ h => h
            case hy0_7 => exact Or.inl ⟨by rfl, fun w hSw => by have q0 := cell_keep p2 hSw; have q1 := cell_keep p3 hSw; have q2 := cell_keep e0 hSw; have q3 := cell_keep e1 hSw; go_simp <;> (try with_reducible rfl)⟩
            simp only [Act.put, List.setIfInBounds_toArray, List.set_cons_zero, List.set_cons_succ]
            refine' wpAnyH_take (i := 1) ?hi1_7 ?hs1_7 ?hf1_7 ?hr1_7 ?hQ1_7 ?hy1_7 (by assumption) ?rest1_7
            case hi1_7 => simp only [List.getElem?_toArray, List.getElem?_cons_succ, List.getElem?_cons_zero] <;> rfl
            case hs1_7 => kernel_rfl
            case hf1_7 => kernel_rfl
            case hr1_7 => kernel_rfl
            case hQ1_7 => exact fun _ _ _ h => h
            case hy1_7 => exact Or.inl ⟨by rfl, fun w hSw => by have q0 := cell_keep p2 hSw; have q1 := cell_keep p3 hSw; have q2 := cell_keep e0 hSw; have q3 := cell_keep e1 hSw; go_simp <;> (try with_reducible rfl)⟩
            simp only [Act.put, List.setIfInBounds_toArray, List.set_cons_zero, List.set_cons_succ]
            refine' wpAnyH_take (i := 2) ?hi2_7 ?hs2_7 ?hf2_7 ?hr2_7 ?hQ2_7 ?hy2_7 (by assumption) ?rest2_7
            case hi2_7 => simp only [List.getElem?_toArray, List.getElem?_cons_succ, List.getElem?_cons_zero] <;> rfl
            case hs2_7 => kernel_rfl
            case hf2_7 => kernel_rfl
            case hr2_7 => kernel_rfl
            case hQ2_7 => exact fun _ _ _ h => h
            case hy2_7 => exact Or.inl ⟨by rfl, fun w hSw => by have q0 := cell_keep p2 hSw; have q1 := cell_keep p3 hSw; have q2 := cell_keep e0 hSw; have q3 := cell_keep e1 hSw; go_simp <;> (try with_reducible rfl)⟩
            simp only [Act.put, List.setIfInBounds_toArray, List.set_cons_zero, List.set_cons_succ]
            refine' wpAnyH_take (i := 3) ?hi3_7 ?hs3_7 ?hf3_7 ?hr3_7 ?hQ3_7 ?hy3_7 (by assumption) ?rest3_7
            case hi3_7 => simp only [List.getElem?_toArray, List.getElem?_cons_succ, List.getElem?_cons_zero] <;> rfl
            case hs3_7 => kernel_rfl
            case hf3_7 => kernel_rfl
            case hr3_7 => kernel_rfl
            case hQ3_7 => exact fun _ _ _ h => h
            case hy3_7 => exact Or.inl ⟨by rfl, fun w hSw => by have q0 := cell_keep p2 hSw; have q1 := cell_keep p3 hSw; have q2 := cell_keep e0 hSw; have q3 := cell_keep e1 hSw; go_simp <;> (try with_reducible rfl)⟩
            simp only [Act.put, List.setIfInBounds_toArray, List.set_cons_zero, List.set_cons_succ]
            refine' wpAnyH_take (i := 4) ?hi4_7 ?hs4_7 ?hf4_7 ?hr4_7 ?hQ4_7 ?hy4_7 (by assumption) ?rest4_7
            case hi4_7 => simp only [List.getElem?_toArray, List.getElem?_cons_succ, List.getElem?_cons_zero] <;> rfl
            case hs4_7 => kernel_rfl
            case hf4_7 => kernel_rfl
            case hr4_7 => kernel_rfl
            case hQ4_7 => exact fun _ _ _ h => h
            case hy4_7 => exact Or.inl ⟨by rfl, fun w hSw => by have q0 := cell_keep p2 hSw; have q1 := cell_keep p3 hSw; have q2 := cell_keep e0 hSw; have q3 := cell_keep e1 hSw; go_simp <;> (try with_reducible rfl)⟩
            simp only [Act.put, List.setIfInBounds_toArray, List.set_cons_zero, List.set_cons_succ]
            refine' wpAnyH_take (i := 5) ?hi5_7 ?hs5_7 ?hf5_7 ?hr5_7 ?hQ5_7 ?hy5_7 (by assumption) ?rest5_7
            case hi5_7 => simp only [List.getElem?_toArray, List.getElem?_cons_succ, List.getElem?_cons_zero] <;> rfl
            case hs5_7 => kernel_rfl
            case hf5_7 => kernel_rfl
            case hr5_7 => kernel_rfl
            case hQ5_7 => exact fun _ _ _ h => h
            case hy5_7 => exact Or.inl ⟨by rfl, fun w hSw => by have q0 := cell_keep p2 hSw; have q1 := cell_keep p3 hSw; have q2 := cell_keep e0 hSw; have q3 := cell_keep e1 hSw; go_simp <;> (try with_reducible rfl)⟩
            simp only [Act.put, List.setIfInBounds_toArray, List.set_cons_zero, List.set_cons_succ]
            refine' wpAnyH_take (i := 6) ?hi6_7 ?hs6_7 ?hf6_7 ?hr6_7 ?hQ6_7 ?hy6_7 (by assumption) ?rest6_7
            case hi6_7 => simp only [List.getElem?_toArray, List.getElem?_cons_succ, List.getElem?_cons_zero] <;> rfl
            case hs6_7 => kernel_rfl
            case hf6_7 => kernel_rfl
            case hr6_7 => kernel_rfl
            case hQ6_7 => exact fun _ _ _ h => h
            case hy6_7 => exact Or.inl ⟨by rfl, fun w hSw => by have q0 := cell_keep p2 hSw; have q1 := cell_keep p3 hSw; have q2 := cell_keep e0 hSw; have q3 := cell_keep e1 hSw; go_simp <;> (try with_reducible rfl)⟩
            simp only [Act.put, List.setIfInBounds_toArray, List.set_cons_zero, List.set_cons_succ]
            refine' wpAnyH_take (i := 7) ?hi7_7 ?hs7_7 ?hf7_7 ?hr7_7 ?hQ7_7 ?hy7_7 (by assumption) ?rest7_7
            case hi7_7 => simp only [List.getElem?_toArray, List.getElem?_cons_succ, List.getElem?_cons_zero] <;> rfl
            case hs7_7 => kernel_rfl
            case hf7_7 => kernel_rfl
            case hr7_7 => kernel_rfl
            case hQ7_7 => exact fun _ _ _ h => h
            case hy7_7 => exact Or.inl ⟨by rfl, fun w hSw => by have q0 := cell_keep p2 hSw; have q1 := cell_keep p3 hSw; have q2 := cell_keep e0 hSw; have q3 := cell_keep e1 hSw; go_simp <;> (try with_reducible rfl)⟩
            simp only [Act.put, List.setIfInBounds_toArray, List.set_cons_zero, List.set_cons_succ]
            refine' wpAnyH_take (i := 8) ?hi8_7 ?hs8_7 ?hf8_7 ?hr8_7 ?hQ8_7 ?hy8_7 (by assumption) ?rest8_7
            case hi8_7 => simp only [List.getElem?_toArray, List.getElem?_cons_succ, List.getElem?_cons_zero] <;> rfl
            case hs8_7 => kernel_rfl
            case hf8_7 => kernel_rfl
            case hr8_7 => kernel_rfl
            case hQ8_7 => exact fun _ _ _ h => h
            case hy8_7 => exact Or.inl ⟨by rfl, fun w hSw => by have q0 := cell_keep p2 hSw; have q1 := cell_keep p3 hSw; have q2 := cell_keep e0 hSw; have q3 := cell_keep e1 hSw; go_simp <;> (try with_reducible rfl)⟩
            simp only [Act.put, List.setIfInBounds_toArray, List.set_cons_zero, List.set_cons_succ]
            refine' wpAnyH_take (i := 9) ?hi9_7 ?hs9_7 ?hf9_7 ?hr9_7 ?hQ9_7 ?hy9_7 (by assumption) ?rest9_7
            case hi9_7 => simp only [List.getElem?_toArray, List.getElem?_cons_succ, List.getElem?_cons_zero] <;> rfl
            case hs9_7 => kernel_rfl
            case hf9_7 => kernel_rfl
            case hr9_7 => kernel_rfl
            case hQ9_7 => exact fun _ _ _ h => h
            case hy9_7 => exact Or.inl ⟨by rfl, fun w hSw => by have q0 := cell_keep p2 hSw; have q1 := cell_keep p3 hSw; have q2 := cell_keep e0 hSw; have q3 := cell_keep e1 hSw; go_simp <;> (try with_reducible rfl)⟩
            simp only [Act.put, List.setIfInBounds_toArray, List.set_cons_zero, List.set_cons_succ]
            refine' wpAnyH_take (i := 10) ?hi10_7 ?hs10_7 ?hf10_7 ?hr10_7 ?hQ10_7 ?hy10_7 (by assumption) ?rest10_7
            case hi10_7 => simp only [List.getElem?_toArray, List.getElem?_cons_succ, List.getElem?_cons_zero] <;> rfl
            case hs10_7 => kernel_rfl
            case hf10_7 => kernel_rfl
            case hr10_7 => kernel_rfl
            case hQ10_7 => exact fun _ _ _ h => h
            case hy10_7 => exact Or.inl ⟨by rfl, fun w hSw => by have q0 := cell_keep p2 hSw; have q1 := cell_keep p3 hSw; have q2 := cell_keep e0 hSw; have q3 := cell_keep e1 hSw; go_simp <;> (try with_reducible rfl)⟩
            simp only [Act.put, List.setIfInBounds_toArray, List.set_cons_zero, List.set_cons_succ]
            refine' wpAnyH_take (i := 11) ?hi11_7 ?hs11_7 ?hf11_7 ?hr11_7 ?hQ11_7 ?hy11_7 (by assumption) ?rest11_7
            case hi11_7 => simp only [List.getElem?_toArray, List.getElem?_cons_succ, List.getElem?_cons_zero] <;> rfl
            case hs11_7 => kernel_rfl
            case hf11_7 => kernel_rfl
            case hr11_7 => kernel_rfl
            case hQ11_7 => exact fun _ _ _ h => h
            case hy11_7 => exact Or.inl ⟨by rfl, fun w hSw => by have q0 := cell_keep p2 hSw; have q1 := cell_keep p3 hSw; have q2 := cell_keep e0 hSw; have q3 := cell_keep e1 hSw; go_simp <;> (try with_reducible rfl)⟩
            simp only [Act.put, List.setIfInBounds_toArray, List.set_cons_zero, List.set_cons_succ]
            refine wpAnyH_ready (rs := [12]) (by kernel_rfl) (by simp) ?_
            refine AllReadyH.cons rfl (fun K hK => ?_) AllReadyH.nil
            go_simp
            with_reducible refine Calls.mono (HWk.out _ (Keeps.trans k7 hHeld) j hlt) ?_
            rintro e w8 ⟨va, al, cl, rfl, hva, hall, k8⟩
            have HLen := Lib.hid hva
            clear hva
            go_wp2_with fail
            have h8 := Keeps.trans hHeld k8
            refine hK.out _ _ h8 (fun hHeld => ?_)
            clear hK K
            refine' wpAnyH_take (i := 13) ?hi13_7 ?hs13_7 ?hf13_7 ?hr13_7 ?hQ13_7 ?hy13_7 (by assumption) ?rest13_7
            case hi13_7 => simp only [List.getElem?_toArray, List.getElem?_cons_succ, List.getElem?_cons_zero] <;> rfl
            case hs13_7 => kernel_rfl
            case hf13_7 => kernel_rfl
            case hr13_7 => kernel_rfl
            case hQ13_7 => exact fun _ _ _ h => h
            case hy13_7 => exact Or.inl ⟨by rfl, fun w hSw => by go_simp <;> (try with_reducible rfl)⟩
            simp only [Act.put, List.setIfInBounds_toArray, List.set_cons_zero, List.set_cons_succ]
            refine' wpAnyH_take (i := 14) ?hi14_7 ?hs14_7 ?hf14_7 ?hr14_7 ?hQ14_7 ?hy14_7 (by assumption) ?rest14_7
            case hi14_7 => simp only [List.getElem?_toArray, List.getElem?_cons_succ, List.getElem?_cons_zero] <;> rfl
            case hs14_7 => kernel_rfl
            case hf14_7 => kernel_rfl
            case hr14_7 => kernel_rfl
            case hQ14_7 => exact fun _ _ _ h => h
            case hy14_7 => exact Or.inl ⟨by rfl, fun w hSw => by go_simp <;> (try with_reducible rfl)⟩
            simp only [Act.put, List.setIfInBounds_toArray, List.set_cons_zero, List.set_cons_succ]
            refine' wpAnyH_take (i := 15) ?hi15_7 ?hs15_7 ?hf15_7 ?hr15_7 ?hQ15_7 ?hy15_7 (by assumption) ?rest15_7
            case hi15_7 => simp only [List.getElem?_toArray, List.getElem?_cons_succ, List.getElem?_cons_zero] <;> rfl
            case hs15_7 => kernel_rfl
            case hf15_7 => kernel_rfl
            case hr15_7 => kernel_rfl
            case hQ15_7 => exact fun _ _ _ h => h
            case hy15_7 => exact Or.inl ⟨by rfl, fun w hSw => by go_simp <;> (try with_reducible rfl)⟩
            simp only [Act.put, List.setIfInBounds_toArray, List.set_cons_zero, List.set_cons_succ]
            refine' wpAnyH_take (i := 16) ?hi16_7 ?hs16_7 ?hf16_7 ?hr16_7 ?hQ16_7 ?hy16_7 (by assumption) ?rest16_7
            case hi16_7 => simp only [List.getElem?_toArray, List.getElem?_cons_succ, List.getElem?_cons_zero] <;> rfl
            case hs16_7 => kernel_rfl
            case hf16_7 => kernel_rfl
            case hr16_7 => kernel_rfl
            case hQ16_7 => exact fun _ _ _ h => h
            case hy16_7 => exact Or.inl ⟨by rfl, fun w hSw => by go_simp <;> (try with_reducible rfl)⟩
            simp only [Act.put, List.setIfInBounds_toArray, List.set_cons_zero, List.set_cons_succ]
            refine' wpAnyH_take (i := 17) ?hi17_7 ?hs17_7 ?hf17_7 ?hr17_7 ?hQ17_7 ?hy17_7 (by assumption) ?rest17_7
            case hi17_7 => simp only [List.getElem?_toArray, List.getElem?_cons_succ, List.getElem?_cons_zero] <;> rfl
            case hs17_7 => kernel_rfl
            case hf17_7 => kernel_rfl
            case hr17_7 => kernel_rfl
            case hQ17_7 => exact fun _ _ _ h => h
            case hy17_7 => exact Or.inl ⟨by rfl, fun w hSw => by go_simp <;> (try with_reducible rfl)⟩
            simp only [Act.put, List.setIfInBounds_toArray, List.set_cons_zero, List.set_cons_succ]
            refine wpAnyH_done (by kernel_rfl) ?_ _
            refine NoPanic.normal ?_
            have HAl := Lib.hid hall
            have z8 := h8.size
            have K8 := Keeps.trans k7 h8
            clear hall k8 e0 e1 p2 p3
            have hHal : Rd w8 va al (intF .i64 fun t => slidAt 500 m F C L stay (c j + t)) := by
              have hlen : ((List.range' (c j) (c (j + 1) - c j)).map (slidAt 500 m F C L stay)).length = al := by simp [HLen.out]
              have h2 : OwnInts w8 w7.heap.size (.slice va ((List.range' (c j) (c (j + 1) - c j)).map (slidAt 500 m F C L stay)).length cl) ((List.range' (c j) (c (j + 1) - c j)).map (slidAt 500 m F C L stay)) := by rw [hlen]; exact HAl.out
              have h3 := h2.rd.1
              rw [hlen] at h3
              refine h3.congr (fun t ht => ?_)
              show Value.int _ (List.getD _ t 0) = Value.int _ _
              rw [List.getD_eq_getElem?_getD, List.getElem?_map, List.getElem?_range' (by have := HLen.out; omega)]
              simp
            have HRa := Lib.hid hHal
            have B8 := B7.keep h8
            clear hHal HAl HWk
            go_wp2_with fail
            go_loopw [12, 107] (fun nv i wr => ∃ k2 : Nat, k2 ≤ al ∧ i = .int .i64 k2 ∧ nv = .int .i64 ((c j + k2 : Nat) : Int) ∧ Keeps w8 wr) (fun _ i _ => al - (intOf i).toNat)
            case atStart => exact ⟨0, by omega, rfl, rfl, Touch.refl _ _⟩
            case round =>
              obtain ⟨w10, rfl⟩ : ∃ w10 : World, w10 = wr := ⟨_, rfl⟩
              obtain ⟨k2, hk2, rfl, rfl, k10⟩ := hrel
              have z10 := k10.size
              have B10 := B8.keep k10
              have p2 := B10.c 2 _ rfl
              have p3 := B10.c 3 _ rfl
              have K10 : Keeps w6 w10 := Keeps.trans K8 k10
              have hLe1 : c j + al ≤ c (j + 1) := by have := HLen.out; omega
              have hLe2 : c (j + 1) ≤ c j + al := by have := HLen.out; omega
              by_cases hlt2 : k2 < al
              · obtain ⟨b1, o1, hva2, x1⟩ := (HRa.out.keep k10).one hlt2
                subst hva2
                have d1 : w10.cell? ⟨b1, o1 + k2, none⟩ = some (.int .i64 (slidAt 500 m F C L stay (c j + k2))) := x1
                have hci : c j + k2 < k := by omega
                obtain ⟨b2, o2, rfl, _, _, hcl⟩ := OwnG.at_ hdC_len (HO6.out.keep K10) (i := c j + k2) (a := (HD (c j + k2)).clean) (by simp [hci])
                obtain ⟨g, hg⟩ : ∃ g, (HD (c j + k2)).clean = g := ⟨_, rfl⟩
                have HHd3 := Lib.hid (HHd2.out (c j + k2) hci)
                rw [hg] at hcl HHd3
                have q0 : w10.cell? ⟨b2, o2 + (c j + k2) * 6, none⟩ = some (.int .i64 g.cls) := hcl 0 _ rfl
                have q1 : w10.cell? ⟨b2, o2 + (c j + k2) * 6 + 1, none⟩ = some (.int .i64 g.age) := hcl 1 _ rfl
                have q2 : w10.cell? ⟨b2, o2 + (c j + k2) * 6 + 2, none⟩ = some (.int .i64 g.fwd) := hcl 2 _ rfl
                have q3 : w10.cell? ⟨b2, o2 + (c j + k2) * 6 + 3, none⟩ = some (.bool g.mark) := hcl 3 _ rfl
                have q4 : w10.cell? ⟨b2, o2 + (c j + k2) * 6 + 4, none⟩ = some (.bool g.fin) := hcl 4 _ rfl
                have q5 : w10.cell? ⟨b2, o2 + (c j + k2) * 6 + 5, none⟩ = some (.bool g.done) := hcl 5 _ rfl
                have hk2I : (k2 : Int) < al := by omega
                unfold hdV at HHd3
                obtain ⟨cc_, ag, fw, mk, fi, dn⟩ := g
                dsimp only at HHd3 q0 q1 q2 q3 q4 q5
                generalize hsx : slidAt 500 m F C L stay (c j + k2) = sx at *
                obtain ⟨N, hN⟩ : ∃ N, c j + k2 = N := ⟨_, rfl⟩
                rw [hN] at q0 q1 q2 q3 q4 q5 hci
                have hNI : ((N : Nat) : Int) < k := by omega
                have HNe := Lib.hid hN
                have hNd : decide ((k : Int) ≤ N) = false := decide_eq_false (by omega)
                rw [hN]
                clear x1 hsx hcl hg hN HHd2 HAw HArg HFull HCj HCb HPo HNr HFe HRs
                go_wp2_with fail
                go_cut [17, 18] from 110 to 120 (fun v _ wx => ∃ hb, v = .pointer (some ⟨hb, 0, none⟩) ∧ BL wx hb 56 [.int .i64 cc_, .int .i64 ag, .int .i64 fw, .bool mk, .bool fi, .bool dn] ∧ w10.heap.size ≤ hb ∧ Keeps w10 wx)
                case first =>
                  have HHd2 := Lib.hid HHd3.out
                  clear HHd3 HO6 HRa q0 q1 q2 q3 q4 q5
                  refine wp_region_noPanic ?_
                  refine wp_region_held_drew (S := (fun w' => Keeps w10 w')) (by kernel_rfl) (Touch.refl _ w10).drew (fun hHeld => ?_)
                  refine' wpAnyH_take (i := 0) ?hi0_8 ?hs0_8 ?hf0_8 ?hr0_8 ?hQ0_8 ?hy0_8 (by assumption) ?rest0_8
                  case hi0_8 => simp only [List.getElem?_toArray, List.getElem?_cons_zero] <;> rfl
                  case hs0_8 => kernel_rfl
                  case hf0_8 => kernel_rfl
                  case hr0_8 => kernel_rfl
                  case hQ0_8 => exact fun _ _ _ h => h
                  case hy0_8 => exact Or.inl ⟨by rfl, fun w hSw => by have q0 := cell_keep p2 hSw; have q1 := cell_keep p3 hSw; have q2 := cell_keep d1 hSw; go_simp <;> (try with_reducible rfl)⟩
                  simp only [Act.put, List.setIfInBounds_toArray, List.set_cons_zero, List.set_cons_succ]
                  refine' wpAnyH_take (i := 1) ?hi1_8 ?hs1_8 ?hf1_8 ?hr1_8 ?hQ1_8 ?hy1_8 (by assumption) ?rest1_8
                  case hi1_8 => simp only [List.getElem?_toArray, List.getElem?_cons_succ, List.getElem?_cons_zero] <;> rfl
                  case hs1_8 => kernel_rfl
                  case hf1_8 => kernel_rfl
                  case hr1_8 => kernel_rfl
                  case hQ1_8 => exact fun _ _ _ h => h
                  case hy1_8 => exact Or.inl ⟨by rfl, fun w hSw => by have q0 := cell_keep p2 hSw; have q1 := cell_keep p3 hSw; have q2 := cell_keep d1 hSw; go_simp <;> (try with_reducible rfl)⟩
                  simp only [Act.put, List.setIfInBounds_toArray, List.set_cons_zero, List.set_cons_succ]
                  refine' wpAnyH_take (i := 2) ?hi2_8 ?hs2_8 ?hf2_8 ?hr2_8 ?hQ2_8 ?hy2_8 (by assumption) ?rest2_8
                  case hi2_8 => simp only [List.getElem?_toArray, List.getElem?_cons_succ, List.getElem?_cons_zero] <;> rfl
                  case hs2_8 => kernel_rfl
                  case hf2_8 => kernel_rfl
                  case hr2_8 => kernel_rfl
                  case hQ2_8 => exact fun _ _ _ h => h
                  case hy2_8 => exact Or.inl ⟨by rfl, fun w hSw => by have q0 := cell_keep p2 hSw; have q1 := cell_keep p3 hSw; have q2 := cell_keep d1 hSw; go_simp <;> (try with_reducible rfl)⟩
                  simp only [Act.put, List.setIfInBounds_toArray, List.set_cons_zero, List.set_cons_succ]
                  refine' wpAnyH_take (i := 3) ?hi3_8 ?hs3_8 ?hf3_8 ?hr3_8 ?hQ3_8 ?hy3_8 (by assumption) ?rest3_8
                  case hi3_8 => simp only [List.getElem?_toArray, List.getElem?_cons_succ, List.getElem?_cons_zero] <;> rfl
                  case hs3_8 => kernel_rfl
                  case hf3_8 => kernel_rfl
                  case hr3_8 => kernel_rfl
                  case hQ3_8 => exact fun _ _ _ h => h
                  case hy3_8 => exact Or.inl ⟨by rfl, fun w hSw => by have q0 := cell_keep p2 hSw; have q1 := cell_keep p3 hSw; have q2 := cell_keep d1 hSw; go_simp <;> (try with_reducible rfl)⟩
                  simp only [Act.put, List.setIfInBounds_toArray, List.set_cons_zero, List.set_cons_succ]
                  refine' wpAnyH_take (i := 4) ?hi4_8 ?hs4_8 ?hf4_8 ?hr4_8 ?hQ4_8 ?hy4_8 (by assumption) ?rest4_8
                  case hi4_8 => simp only [List.getElem?_toArray, List.getElem?_cons_succ, List.getElem?_cons_zero] <;> rfl
                  case hs4_8 => kernel_rfl
                  case hf4_8 => kernel_rfl
                  case hr4_8 => kernel_rfl
                  case hQ4_8 => exact fun _ _ _ h => h
                  case hy4_8 => exact Or.inl ⟨by rfl, fun w hSw => by have q0 := cell_keep p2 hSw; have q1 := cell_keep p3 hSw; have q2 := cell_keep d1 hSw; go_simp <;> (try with_reducible rfl)⟩
                  simp only [Act.put, List.setIfInBounds_toArray, List.set_cons_zero, List.set_cons_succ]
                  refine' wpAnyH_take (i := 5) ?hi5_8 ?hs5_8 ?hf5_8 ?hr5_8 ?hQ5_8 ?hy5_8 (by assumption) ?rest5_8
                  case hi5_8 => simp only [List.getElem?_toArray, List.getElem?_cons_succ, List.getElem?_cons_zero] <;> rfl
                  case hs5_8 => kernel_rfl
                  case hf5_8 => kernel_rfl
                  case hr5_8 => kernel_rfl
                  case hQ5_8 => exact fun _ _ _ h => h
                  case hy5_8 => exact Or.inl ⟨by rfl, fun w hSw => by have q0 := cell_keep p2 hSw; have q1 := cell_keep p3 hSw; have q2 := cell_keep d1 hSw; go_simp <;> (try with_reducible rfl)⟩
                  simp only [Act.put, List.setIfInBounds_toArray, List.set_cons_zero, List.set_cons_succ]
                  refine wpAnyH_ready (rs := [6, 10]) (by kernel_rfl) (by simp) ?_
                  refine (AllReadyH.cons rfl (fun K hK => ?_) (AllReadyH.cons rfl (fun K hK => ?_) AllReadyH.nil))
                  · go_simp
                    with_reducible refine Calls.mono (HHd2.out _ (Keeps.trans K10 hHeld)) ?_
                    rintro e w11 ⟨rfl, k5⟩
                    go_wp2_with fail
                    have hHeld5 := Keeps.trans hHeld k5
                    refine hK.out _ _ hHeld5 (fun hHeld => ?_)
                    clear hK K
                    refine' wpAnyH_take (i := 7) ?hi7_9 ?hs7_9 ?hf7_9 ?hr7_9 ?hQ7_9 ?hy7_9 (by assumption) ?rest7_9
                    case hi7_9 => simp only [List.getElem?_toArray, List.getElem?_cons_succ, List.getElem?_cons_zero] <;> rfl
                    case hs7_9 => kernel_rfl
                    case hf7_9 => kernel_rfl
                    case hr7_9 => kernel_rfl
                    case hQ7_9 => exact fun _ _ _ h => h
                    case hy7_9 => exact Or.inl ⟨by rfl, fun w hSw => by go_simp <;> (try with_reducible rfl)⟩
                    simp only [Act.put, List.setIfInBounds_toArray, List.set_cons_zero, List.set_cons_succ]
                    refine' wpAnyH_take (i := 8) ?hi8_9 ?hs8_9 ?hf8_9 ?hr8_9 ?hQ8_9 ?hy8_9 (by assumption) ?rest8_9
                    case hi8_9 => simp only [List.getElem?_toArray, List.getElem?_cons_succ, List.getElem?_cons_zero] <;> rfl
                    case hs8_9 => kernel_rfl
                    case hf8_9 => kernel_rfl
                    case hr8_9 => kernel_rfl
                    case hQ8_9 => exact fun _ _ _ h => h
                    case hy8_9 => exact Or.inl ⟨by rfl, fun w hSw => by go_simp <;> (try with_reducible rfl)⟩
                    simp only [Act.put, List.setIfInBounds_toArray, List.set_cons_zero, List.set_cons_succ]
                    refine' wpAnyH_take (i := 9) ?hi9_9 ?hs9_9 ?hf9_9 ?hr9_9 ?hQ9_9 ?hy9_9 (by assumption) ?rest9_9
                    case hi9_9 => simp only [List.getElem?_toArray, List.getElem?_cons_succ, List.getElem?_cons_zero] <;> rfl
                    case hs9_9 => kernel_rfl
                    case hf9_9 => kernel_rfl
                    case hr9_9 => kernel_rfl
                    case hQ9_9 => exact fun _ _ _ h => h
                    case hy9_9 => exact Or.inl ⟨by rfl, fun w hSw => by go_simp <;> (try with_reducible rfl)⟩
                    simp only [Act.put, List.setIfInBounds_toArray, List.set_cons_zero, List.set_cons_succ]
                    refine wpAnyH_ready (rs := [10]) (by kernel_rfl) (by simp) ?_
                    refine (AllReadyH.cons rfl (fun K hK => ?_) AllReadyH.nil)
                    go_simp
                    refine hK.out _ _ (Touch.alloc hHeld5 _) (fun hHeld => ?_)
                    clear hK K
                    refine wpAnyH_ready (rs := [11]) (by kernel_rfl) (by simp) ?_
                    refine (AllReadyH.cons rfl (fun K hK => ?_) AllReadyH.nil)
                    go_simp
                    refine hK.out _ _ (Touch.alloc hHeld5 _) (fun hHeld => ?_)
                    clear hK K
                    refine' wpAnyH_take (i := 12) ?hi12_10 ?hs12_10 ?hf12_10 ?hr12_10 ?hQ12_10 ?hy12_10 (by assumption) ?rest12_10
                    case hi12_10 => simp only [List.getElem?_toArray, List.getElem?_cons_succ, List.getElem?_cons_zero] <;> rfl
                    case hs12_10 => kernel_rfl
                    case hf12_10 => kernel_rfl
                    case hr12_10 => kernel_rfl
                    case hQ12_10 => exact fun _ _ _ h => h
                    case hy12_10 => exact Or.inl ⟨by rfl, fun w hSw => by go_simp <;> (try with_reducible rfl)⟩
                    simp only [Act.put, List.setIfInBounds_toArray, List.set_cons_zero, List.set_cons_succ]
                    refine wpAnyH_done (by kernel_rfl) ?_ _
                    refine NoPanic.normal ?_
                    go_wp2_with fail
                    go_meet
                    exact ⟨w11.heap.size, rfl, BL.new1 w11 56 _ [.int .i64 cc_, .int .i64 ag, .int .i64 fw, .bool mk, .bool fi, .bool dn] _ rfl rfl, hHeld5.size, hHeld⟩
                  · go_simp
                    have ka : Keeps w10 ((w10.drew).alloc (.cells (#[.int .i64 0, .int .i64 0, .int .i64 0, .bool false, .bool false, .bool false]) 56)) := Touch.alloc hHeld _
                    have B0 : BL ((w10.drew).alloc (.cells (#[.int .i64 0, .int .i64 0, .int .i64 0, .bool false, .bool false, .bool false]) 56)) w10.heap.size 56 [.int .i64 0, .int .i64 0, .int .i64 0, .bool false, .bool false, .bool false] := BL.new1 _ _ _ [.int .i64 0, .int .i64 0, .int .i64 0, .bool false, .bool false, .bool false] _ rfl rfl
                    refine hK.out _ _ ka (fun hHeld => ?_)
                    clear hK K
                    refine wpAnyH_ready (rs := [6]) (by kernel_rfl) (by simp) ?_
                    refine (AllReadyH.cons rfl (fun K hK => ?_) AllReadyH.nil)
                    go_simp
                    with_reducible refine Calls.mono (HHd2.out _ (Keeps.trans K10 hHeld)) ?_
                    rintro e w11 ⟨rfl, k5⟩
                    go_wp2_with fail
                    have hHeld5 := Keeps.trans hHeld k5
                    refine hK.out _ _ hHeld5 (fun hHeld => ?_)
                    clear hK K
                    refine' wpAnyH_take (i := 7) ?hi7_11 ?hs7_11 ?hf7_11 ?hr7_11 ?hQ7_11 ?hy7_11 (by assumption) ?rest7_11
                    case hi7_11 => simp only [List.getElem?_toArray, List.getElem?_cons_succ, List.getElem?_cons_zero] <;> rfl
                    case hs7_11 => kernel_rfl
                    case hf7_11 => kernel_rfl
                    case hr7_11 => kernel_rfl
                    case hQ7_11 => exact fun _ _ _ h => h
                    case hy7_11 => exact Or.inl ⟨by rfl, fun w hSw => by go_simp <;> (try with_reducible rfl)⟩
                    simp only [Act.put, List.setIfInBounds_toArray, List.set_cons_zero, List.set_cons_succ]
                    refine' wpAnyH_take (i := 8) ?hi8_11 ?hs8_11 ?hf8_11 ?hr8_11 ?hQ8_11 ?hy8_11 (by assumption) ?rest8_11
                    case hi8_11 => simp only [List.getElem?_toArray, List.getElem?_cons_succ, List.getElem?_cons_zero] <;> rfl
                    case hs8_11 => kernel_rfl
                    case hf8_11 => kernel_rfl
                    case hr8_11 => kernel_rfl
                    case hQ8_11 => exact fun _ _ _ h => h
                    case hy8_11 => exact Or.inl ⟨by rfl, fun w hSw => by go_simp <;> (try with_reducible rfl)⟩
                    simp only [Act.put, List.setIfInBounds_toArray, List.set_cons_zero, List.set_cons_succ]
                    refine' wpAnyH_take (i := 9) ?hi9_11 ?hs9_11 ?hf9_11 ?hr9_11 ?hQ9_11 ?hy9_11 (by assumption) ?rest9_11
                    case hi9_11 => simp only [List.getElem?_toArray, List.getElem?_cons_succ, List.getElem?_cons_zero] <;> rfl
                    case hs9_11 => kernel_rfl
                    case hf9_11 => kernel_rfl
                    case hr9_11 => kernel_rfl
                    case hQ9_11 => exact fun _ _ _ h => h
                    case hy9_11 => exact Or.inl ⟨by rfl, fun w hSw => by go_simp <;> (try with_reducible rfl)⟩
                    simp only [Act.put, List.setIfInBounds_toArray, List.set_cons_zero, List.set_cons_succ]
                    refine wpAnyH_ready (rs := [11]) (by kernel_rfl) (by simp) ?_
                    refine (AllReadyH.cons rfl (fun K hK => ?_) AllReadyH.nil)
                    rw [if_pos (show Region.wanted _ _ = true from rfl)]
                    refine wp_store_bl 56 (.tmp 17) (.tmp 118) rfl (BL.keep B0 k5) rfl [.int .i64 cc_, .int .i64 ag, .int .i64 fw, .bool mk, .bool fi, .bool dn] rfl sz_hd rfl rfl ?_
                    intro X BX kX
                    refine hK.out _ _ (Touch.new hHeld5 kX (Nat.le_refl _)) (fun hHeld => ?_)
                    clear hK K
                    simp only [Act.put, List.setIfInBounds_toArray, List.set_cons_zero, List.set_cons_succ]
                    refine' wpAnyH_take (i := 12) ?hi12_12 ?hs12_12 ?hf12_12 ?hr12_12 ?hQ12_12 ?hy12_12 (by assumption) ?rest12_12
                    case hi12_12 => simp only [List.getElem?_toArray, List.getElem?_cons_succ, List.getElem?_cons_zero] <;> rfl
                    case hs12_12 => kernel_rfl
                    case hf12_12 => kernel_rfl
                    case hr12_12 => kernel_rfl
                    case hQ12_12 => exact fun _ _ _ h => h
                    case hy12_12 => exact Or.inl ⟨by rfl, fun w hSw => by go_simp <;> (try with_reducible rfl)⟩
                    simp only [Act.put, List.setIfInBounds_toArray, List.set_cons_zero, List.set_cons_succ]
                    refine wpAnyH_done (by kernel_rfl) ?_ _
                    refine NoPanic.normal ?_
                    go_wp2_with fail
                    go_meet
                    exact ⟨w10.heap.size, rfl, BX, Nat.le_refl _, hHeld⟩
                case rest =>
                obtain ⟨w12, rfl⟩ : ∃ w12 : World, w12 = wc := ⟨_, rfl⟩
                obtain ⟨hb, rfl, B12, hhb, k12⟩ := hcut
                have q0 := cell_keep q0 k12
                have q1 := cell_keep q1 k12
                have q2 := cell_keep q2 k12
                have q3 := cell_keep q3 k12
                have q4 := cell_keep q4 k12
                have q5 := cell_keep q5 k12
                have h0 := B12.c 0 _ rfl
                have h1 := B12.c 1 _ rfl
                have h2 := B12.c 2 _ rfl
                have h3 := B12.c 3 _ rfl
                have h4 := B12.c 4 _ rfl
                have h5 := B12.c 5 _ rfl
                clear HHd3 p2 p3 d1 B12
                go_wp2_with fail
                go_quiet (fail)
                go_wp2_with fail
                go_roundw
                case rel => exact ⟨k2 + 1, by omega, by go_num, by rw [← Nat.add_assoc, HNe.out]; go_num, (Keeps.trans k10 k12).drewN _⟩
                case measure => simp [intOf]; omega
              · obtain rfl : k2 = al := by omega
                have hce : c j + k2 = c (j + 1) := by omega
                have HCe := Lib.hid hce
                clear hce
                go_wp2_with fail
                go_roundw
                case rel => exact ⟨j + 1, by omega, by go_num, by rw [HCe.out], K10⟩
                case measure => simp [intOf]; omega
          · obtain rfl : j = 3 := by omega
            rw [hc3]
            go_wp2_with fail
            go_ret
            exact ⟨by simp, Keeps.trans K6 k7⟩

end Go.Proofs.Ytkjgfblkbjlohaa
