/- The law SlideRoots. -/
import Derived.Test.YtkjgfblkbjlohaaG37
import Derived.BigQuiet
set_option linter.all false


namespace Go.Proofs.Ytkjgfblkbjlohaa
open Go.RowKit

set_option maxRecDepth 100000 in
set_option maxHeartbeats 4000000 in
theorem roots_walk (w : World) (Ac : Option Addr) (m cc : Nat) (C : Nat → Cl) (Th : Option Addr) (nt tc : Nat) (T : Nat → Thg) (Rf : Option Addr) (nr rc : Nat) (R : Nat → Int) (Ro : Option Addr) (nz zc : Nat) (Z : Nat → Int) (s0 s1 s2 : Int) (h : WArg w Ac m cc C Th nt T Rf nr R Ro nz Z s0 s1 s2) :
    Calls Try.prog 5 #[.agg #[.slice Ac m cc, .slice Th nt tc, .slice Rf nr rc, .slice Ro nz zc, .int .u8 s0, .int .u8 s1, .int .u8 s2]] w fun e w' => e = .returned (.bool true) ∧ Keeps w w' := by
  have HMd := Lib.hid (show ∀ w', Keeps w w' → Calls Try.prog 8 #[.agg #[.slice Ac m cc, .slice Th nt tc, .slice Rf nr rc, .slice Ro nz zc, .int .u8 s0, .int .u8 s1, .int .u8 s2]] w' (MadeOut Ac m cc C nt T w') from fun w' k => made_any w' Ac m cc C Th nt tc T Rf nr rc R Ro nz zc Z s0 s1 s2 (h.keep k))
  have hzl := zero_life
  have HAw := Lib.hid awake_any
  have HArg := Lib.hid h
  clear h
  go_enter Try.func5, Try.ntmps5
  go_wp2_with fail
  have K1 : Keeps w (w.alloc (.cells #[.slice Ac m cc, .slice Th nt tc, .slice Rf nr rc, .slice Ro nz zc, .int .u8 s0, .int .u8 s1, .int .u8 s2] 28)) := (Touch.refl _ w).alloc _
  refine Calls.mono (HMd.out _ K1) ?_
  clear HMd
  rintro e w2 (⟨rfl, k2⟩ | ⟨ba, bw, f, bt, A, cap, gs, scp, av, sv, rv, L, G, ats, stay, roots, rfl, hM, hfull, ⟨hm, hnt60, hm0⟩, k2⟩)
  · have K2 := Keeps.trans K1 k2
    clear K1 k2
    go_wp2_with fail
    refine Calls.mono (HAw.out _) ?_
    rintro e w3 ⟨rfl, k3⟩
    go_wp2_with fail
    refine Calls.mono (HAw.out _) ?_
    rintro e w4 ⟨rfl, k4⟩
    go_wp2_with fail
    go_ret
    exact ⟨rfl, Keeps.trans (Keeps.trans (Touch.alloc K2 _) k3) k4⟩
  · have K2 := Keeps.trans K1 k2
    obtain ⟨aa, ac, hav⟩ := hM.at_.form
    obtain ⟨sa, sc, hsv⟩ := hM.stay_.form
    obtain ⟨ra, rc', hrv⟩ := hM.roots_.form
    subst hav
    subst hsv
    subst hrv
    have HM := Lib.hid hM
    have HFull := Lib.hid hfull
    have HNtM := Lib.hid (And.intro hnt60 hm0)
    clear hnt60 hm0
    have hal := hM.al
    have hsl := hM.sl
    have hrl := hM.rl
    have z2 := K2.size
    have hlow := hM.low
    have hgs := hM.gs
    have hbl := hM.st.ar.lt1
    have hbwl := hM.st.ar.lt2
    simp only [World.size_alloc] at hlow hgs
    clear K1 k2 hM hfull
    unfold lifeV
    go_wp2_with fail
    refine Calls.mono (HAw.out _) ?_
    rintro e w3 ⟨rfl, k3⟩
    have k23 : Keeps w2 w3 := Keeps.trans ((Touch.refl _ w2).alloc _) k3
    have B3 : BL w3 w2.heap.size 37 [.pointer (some ⟨ba, 0, none⟩), .pointer (some ⟨bt, 0, none⟩), .pointer (some ⟨ba, 0, none⟩), .pointer (some ⟨bt, 0, none⟩), .slice (some ⟨gs, 0, none⟩) 3 scp, .slice aa ats.length ac, .slice sa stay.length sc, .slice ra roots.length rc', .slice Ac m cc] := (BL.new1 w2 37 _ [.pointer (some ⟨ba, 0, none⟩), .pointer (some ⟨bt, 0, none⟩), .pointer (some ⟨ba, 0, none⟩), .pointer (some ⟨bt, 0, none⟩), .slice (some ⟨gs, 0, none⟩) 3 scp, .slice aa ats.length ac, .slice sa stay.length sc, .slice ra roots.length rc', .slice Ac m cc] _ rfl rfl).keep k3
    have HM3 := Lib.hid (HM.out.keep k23)
    have K3 := Keeps.trans K2 k23
    have z3 := k23.size
    have hxl := B3.lt
    clear k3 K2 HM
    have c0 := B3.c 0 _ rfl
    have c1 := B3.c 1 _ rfl
    have c4 := B3.c 4 _ rfl
    have c6 := B3.c 6 _ rfl
    have c7 := B3.c 7 _ rfl
    have hst := HM3.out.is.stays
    have hC := HM3.out.st.tb.ok
    have HS := Lib.hid hst
    have HRun := Lib.hid (run_own HM3.out.st HM3.out.inv HM3.out.row hst HM3.out.stay_ HM3.out.svb (by omega) HM3.out.roots_ HM3.out.rvb (by omega) HM3.out.is.roots scp)
    have HMo := Lib.hid (show ∀ x y, x ∈ roots → y ∈ roots → (goTo (atT 500 f m C) L stay x < goTo (atT 500 f m C) L stay y ↔ x < y) ∧ goTo (atT 500 f m C) L stay x ≤ x ∧ (goTo (atT 500 f m C) L stay x = 0 ↔ x = 0) from fun x y hx hy =>
      ⟨hst.mono hC HM3.out.inv (by omega) (HM3.out.is.roots x hx) (HM3.out.is.roots y hy), hst.le_ hC HM3.out.inv (by omega) (HM3.out.is.roots x hx)⟩)
    clear hst hC
    go_wp2_with fail
    refine Calls.mono HRun.out ?_
    clear HRun
    rintro e w5 ⟨v, ad, cp, rfl, hown, hnow, hst5, o5⟩
    have K5 := K3.new o5 (by omega)
    have B5 := B3.touch o5 (show ¬ w2.heap.size = bw by omega)
    obtain ⟨oa, oc, hv⟩ := hown.form
    subst hv
    have hol : ((List.range roots.length).map fun i => (toM (atT 500 f m C) L 3 (gt0 stay) stay.length (gt0 roots i)).getD 0).length = roots.length := by simp
    have ho1 := hown.rd.1
    have hrd : Rd w5 ra roots.length (intF .i64 (gt0 roots)) := (HM3.out.roots_.touch o5 (fun kk e h => HM3.out.rvb kk e h)).rd.1
    rw [hol] at ho1
    have hod : Rd w5 oa roots.length (intF .i64 fun i => goTo (atT 500 f m C) L stay (gt0 roots i)) := ho1.congr (fun j hj => by
      show Value.int _ (List.getD _ j 0) = Value.int _ _
      rw [map_range_getD _ _ _ hj]; rfl)
    have HRd := Lib.hid hrd
    have HOd := Lib.hid hod
    have HRm := Lib.hid (show ∀ i, i < roots.length → gt0 roots i ∈ roots from fun i hi => gt0_mem hi)
    rw [hol]
    have c7 := B5.c 7 _ rfl
    clear hown hnow hst5 ho1 hrd hod hol c0 c1 c4 c6 B3 HM3 HS
    generalize roots.length = n at *
    go_wp2_with fail
    go_loopw [49] (fun i wr => ∃ k : Nat, k ≤ n ∧ i = .int .i64 k ∧ Keeps w5 wr) (fun i _ => n - (intOf i).toNat)
    case atStart => exact ⟨0, by omega, rfl, Touch.refl _ _⟩
    case round =>
      obtain ⟨w6, rfl⟩ : ∃ w6 : World, w6 = wr := ⟨_, rfl⟩
      obtain ⟨k, hk, rfl, k6⟩ := hrel
      by_cases hlt : k < n
      · go_wp2_with fail
        go_loopw [54] (fun i wr => ∃ q : Nat, q ≤ n ∧ i = .int .i64 q ∧ Keeps w5 wr) (fun i _ => n - (intOf i).toNat)
        case atStart => exact ⟨0, by omega, rfl, k6⟩
        case round =>
          obtain ⟨w7, rfl⟩ : ∃ w7 : World, w7 = wr := ⟨_, rfl⟩
          obtain ⟨q, hq, rfl, k7⟩ := hrel
          by_cases hlt2 : q < n
          · obtain ⟨b1, o1, rfl, x1_⟩ := (HRd.out.keep k7).one hlt
            obtain ⟨b2, o2, rfl, x2_⟩ := (HOd.out.keep k7).one hlt
            obtain ⟨b3, o3, e3, x3_⟩ := (HRd.out.keep k7).one hlt2
            obtain ⟨b4, o4, e4, x4_⟩ := (HOd.out.keep k7).one hlt2
            cases e3
            cases e4
            have d1 : w7.cell? ⟨b1, o1 + k, none⟩ = some (.int .i64 (gt0 roots k)) := x1_
            have d2 : w7.cell? ⟨b2, o2 + k, none⟩ = some (.int .i64 (goTo (atT 500 f m C) L stay (gt0 roots k))) := x2_
            have d3 : w7.cell? ⟨b1, o1 + q, none⟩ = some (.int .i64 (gt0 roots q)) := x3_
            have d4 : w7.cell? ⟨b2, o2 + q, none⟩ = some (.int .i64 (goTo (atT 500 f m C) L stay (gt0 roots q))) := x4_
            clear x1_ x2_ x3_ x4_
            have hcmp := (HMo.out _ _ (HRm.out k hlt) (HRm.out q hlt2)).1
            have c77 := cell_keep c7 k7
            have hltI : (k : Int) < n := by omega
            have hlt2I : (q : Int) < n := by omega
            generalize goTo (atT 500 f m C) L stay (gt0 roots k) = x1 at *
            generalize goTo (atT 500 f m C) L stay (gt0 roots q) = x2 at *
            generalize gt0 roots k = y1 at *
            generalize gt0 roots q = y2 at *
            by_cases hb : y1 < y2
            · have hx : x1 < x2 := hcmp.2 hb
              clear hcmp
              go_wp2_with fail
              go_quiet (fail)
              go_wp2_with fail
              go_roundw
              case rel => exact ⟨q + 1, by omega, by go_num, k7.drewN _⟩
              case measure => simp [intOf]; omega
            · have hx : decide (x1 < x2) = false := decide_eq_false (fun h => hb (hcmp.1 h))
              have hb2 : decide (y1 < y2) = false := decide_eq_false hb
              clear hcmp
              go_wp2_with fail
              go_quiet (fail)
              go_wp2_with fail
              go_roundw
              case rel => exact ⟨q + 1, by omega, by go_num, k7.drewN _⟩
              case measure => simp [intOf]; omega
          · obtain rfl : q = n := by omega
            obtain ⟨b1, o1, rfl, x1_⟩ := (HRd.out.keep k7).one hlt
            obtain ⟨b2, o2, rfl, x2_⟩ := (HOd.out.keep k7).one hlt
            have d1 : w7.cell? ⟨b1, o1 + k, none⟩ = some (.int .i64 (gt0 roots k)) := x1_
            have d2 : w7.cell? ⟨b2, o2 + k, none⟩ = some (.int .i64 (goTo (atT 500 f m C) L stay (gt0 roots k))) := x2_
            clear x1_ x2_
            obtain ⟨_, hle, hz⟩ := HMo.out _ _ (HRm.out k hlt) (HRm.out k hlt)
            have c77 := cell_keep c7 k7
            have hltI : (k : Int) < q := by omega
            generalize goTo (atT 500 f m C) L stay (gt0 roots k) = x1 at *
            generalize gt0 roots k = y1 at *
            have hx : decide (y1 < x1) = false := decide_eq_false (by omega)
            by_cases hb : y1 = 0
            · have hxz : x1 = 0 := hz.2 hb
              subst hb
              subst hxz
              clear hle hz
              go_wp2_with fail
              go_quiet (fail)
              go_wp2_with fail
              go_roundw
              case rel => exact ⟨k + 1, by omega, by go_num, k7.drewN _⟩
              case measure => simp [intOf]; omega
            · have hxz : (x1 == 0) = false := by simpa using fun h => hb (hz.1 h)
              have hb2 : (y1 == 0) = false := by simpa using hb
              clear hle hz
              go_wp2_with fail
              go_quiet (fail)
              go_wp2_with fail
              go_roundw
              case rel => exact ⟨k + 1, by omega, by go_num, k7.drewN _⟩
              case measure => simp [intOf]; omega
      · obtain rfl : k = n := by omega
        go_wp2_with fail
        go_ret
        exact ⟨rfl, Keeps.trans K5 k6⟩

end Go.Proofs.Ytkjgfblkbjlohaa
