/- The law SlideRefuses. -/
import Derived.Test.YtkjgfblkbjlohaaG37
import Derived.Test.YtkjgfblkbjlohaaRefP
import Derived.Test.YtkjgfblkbjlohaaAppRd
import Derived.Test.YtkjgfblkbjlohaaG38
import Derived.BigQuiet
import Derived.Deep.CutBlock
set_option linter.all false

namespace Go.Proofs.Ytkjgfblkbjlohaa
open Go.RowKit

def Apart (a b : Value) : Prop := ∀ kk, a.ownBlock = some kk → ∀ kk', b.ownBlock = some kk' → kk ≠ kk'
/-- What a run is asked for that is refused. -/
structure Fin (w wx : World) (ba bw : Nat) (f' : Nat → Int) (bt : Nat) (A : Option Addr) (m cap : Nat) (C : Nat → Cl) (L' : Nat → Sp) (st' ro' : List Int) (v10 v11 v12 : Value) (E : Int) : Prop where
  st : St wx ba bw 500 f' bt A m cap C
  i64 : ∀ j, j < 500 → I64 (f' j)
  sp : ∃ ad cp, v10 = .slice ad 3 cp ∧ Rd wx ad (3 * 3) (spF L')
  tt : ∀ j, j < 3 → InI (L' j).t
  os : OwnInts wx w.heap.size v11 st'
  ol : st'.length ≤ 61
  oi : ∀ x, x ∈ st' → I64 x
  or_ : OwnInts wx w.heap.size v12 ro'
  rl : ro'.length ≤ 21
  ri : ∀ x, x ∈ ro' → I64 x
  no : E = 1 ∧ ¬ RunPre L' 3 500 (gt0 st') st'.length ∨ E = 12 ∧ RunPre L' 3 500 (gt0 st') st'.length ∧ ¬ RunGood 500 m f' C L' 3 (gt0 st') st'.length (gt0 ro') ro'.length
  keep : Only bw w wx
set_option maxRecDepth 100000 in
set_option maxHeartbeats 4000000 in
theorem refuse_walk (w : World) (Ac : Option Addr) (m cc : Nat) (C : Nat → Cl) (Th : Option Addr) (nt tc : Nat) (T : Nat → Thg) (Rf : Option Addr) (nr rc : Nat) (R : Nat → Int) (Ro : Option Addr) (nz zc : Nat) (Z : Nat → Int) (s0 s1 s2 : Int) (kd ka : Int) (hkd : 0 ≤ kd ∧ kd ≤ 255) (hka : 0 ≤ ka ∧ ka ≤ 65535) (h : WArg w Ac m cc C Th nt T Rf nr R Ro nz Z s0 s1 s2) :
    Calls Try.prog 3 #[.agg #[.slice Ac m cc, .slice Th nt tc, .slice Rf nr rc, .slice Ro nz zc, .int .u8 s0, .int .u8 s1, .int .u8 s2], .int .u8 kd, .int .u16 ka] w fun e w' => e = .returned (.bool true) ∧ Keeps w w' := by
  have HMd := Lib.hid (show ∀ w', Keeps w w' → Calls Try.prog 8 #[.agg #[.slice Ac m cc, .slice Th nt tc, .slice Rf nr rc, .slice Ro nz zc, .int .u8 s0, .int .u8 s1, .int .u8 s2]] w' (MadeOut Ac m cc C nt T w') from fun w' k => made_any w' Ac m cc C Th nt tc T Rf nr rc R Ro nz zc Z s0 s1 s2 (h.keep k))
  have hzl := zero_life
  have HAw := Lib.hid awake_any
  have HArg := Lib.hid h
  clear h
  go_enter Try.func3, Try.ntmps3
  go_wp2_with fail
  have K1 : Keeps w (w.alloc (.cells #[.slice Ac m cc, .slice Th nt tc, .slice Rf nr rc, .slice Ro nz zc, .int .u8 s0, .int .u8 s1, .int .u8 s2] 28)) := (Touch.refl _ w).alloc _
  refine Calls.mono (HMd.out _ K1) ?_
  clear HMd
  rintro e w2 (⟨rfl, k2⟩ | ⟨ba, bw, f, bt, A, cap, gs, scp, av, sv, rv, L, G, ats, stay, roots, rfl, hM, hfull, ⟨hm, hnt60, hm0⟩, k2⟩)
  · have K2 := Keeps.trans K1 k2
    clear K1 k2
    go_wp2_with fail
    refine Calls.mono (HAw.out _) ?_
    rintro e w3 ⟨rfl, k3⟩
    go_wp2_with fail
    refine Calls.mono (HAw.out _) ?_
    rintro e w4 ⟨rfl, k4⟩
    go_wp2_with fail
    go_ret
    exact ⟨rfl, Keeps.trans (Keeps.trans (Touch.alloc K2 _) k3) k4⟩
  · have K2 := Keeps.trans K1 k2
    obtain ⟨aa, ac, hav⟩ := hM.at_.form
    obtain ⟨sa, sc, hsv⟩ := hM.stay_.form
    obtain ⟨ra, rc', hrv⟩ := hM.roots_.form
    subst hav
    subst hsv
    subst hrv
    have HM := Lib.hid hM
    have HFull := Lib.hid hfull
    have HNtM := Lib.hid (And.intro hnt60 hm0)
    clear hnt60 hm0
    have hal := hM.al
    have hsl := hM.sl
    have hrl := hM.rl
    have z2 := K2.size
    have hlow := hM.low
    have hgs := hM.gs
    have hbl := hM.st.ar.lt1
    have hbwl := hM.st.ar.lt2
    simp only [World.size_alloc] at hlow hgs
    clear K1 k2 hM hfull
    unfold lifeV
    go_wp2_with fail
    refine Calls.mono (HAw.out _) ?_
    rintro e w3 ⟨rfl, k3⟩
    have k23 : Keeps w2 w3 := Keeps.trans ((Touch.refl _ w2).alloc _) k3
    have B3 : BL w3 w2.heap.size 37 [.pointer (some ⟨ba, 0, none⟩), .pointer (some ⟨bt, 0, none⟩), .pointer (some ⟨ba, 0, none⟩), .pointer (some ⟨bt, 0, none⟩), .slice (some ⟨gs, 0, none⟩) 3 scp, .slice aa ats.length ac, .slice sa stay.length sc, .slice ra roots.length rc', .slice Ac m cc] := (BL.new1 w2 37 _ [.pointer (some ⟨ba, 0, none⟩), .pointer (some ⟨bt, 0, none⟩), .pointer (some ⟨ba, 0, none⟩), .pointer (some ⟨bt, 0, none⟩), .slice (some ⟨gs, 0, none⟩) 3 scp, .slice aa ats.length ac, .slice sa stay.length sc, .slice ra roots.length rc', .slice Ac m cc] _ rfl rfl).keep k3
    have HM3 := Lib.hid (HM.out.keep k23)
    have K3 := Keeps.trans K2 k23
    have z3 := k23.size
    have hxl := B3.lt
    clear k3 K2 HM
    by_cases hn0 : stay.length = 0
    · have c6 := B3.c 6 _ rfl
      rw [hn0] at c6
      go_wp2_with fail
      refine Calls.mono (HAw.out _) ?_
      rintro e w4 ⟨rfl, k4⟩
      go_wp2_with fail
      go_ret
      exact ⟨rfl, Keeps.trans K3 k4⟩
    · have hnb : ((stay.length : Int) == 0) = false := beq_eq_false_iff_ne.2 (by omega)
      have hnb2 : ¬ ((stay.length : Int) = 0) := by omega
      have p0 := B3.c 0 _ rfl
      have p1 := B3.c 1 _ rfl
      have p2 := B3.c 2 _ rfl
      have p3 := B3.c 3 _ rfl
      have p4 := B3.c 4 _ rfl
      have p6 := B3.c 6 _ rfl
      have p7 := B3.c 7 _ rfl
      have gka : IntKind.i64.wrap ka = ka := IntWalk.i64_in _ ⟨by omega, by omega⟩
      obtain ⟨k, hk⟩ : ∃ k : Nat, ka % (stay.length : Int) = k := ⟨(ka % (stay.length : Int)).toNat, by have := Int.emod_nonneg ka (show (stay.length : Int) ≠ 0 by omega); omega⟩
      have hkt : ka.tmod stay.length = k := by rw [Int.tmod_eq_emod_of_nonneg hka.1]; exact hk
      have hkl : k < stay.length := by have := Int.emod_lt_of_pos ka (show (0 : Int) < stay.length by omega); omega
      have hklI : (k : Int) < stay.length := by omega
      have HRw := Lib.hid HM3.out.row.rd
      have HS2 := Lib.hid HM3.out.stay_
      have HS3 := Lib.hid HM3.out.roots_
      have HPl := Lib.hid (And.intro HM3.out.inv HM3.out.is.stays)
      have HSt := Lib.hid HM3.out.st
      have HRo := Lib.hid HM3.out.is.roots
      have hgs2 := HM3.out.gs.2
      have HC := Lib.hid HM3.out.st.tb.ok
      clear hk HM3 HFull HArg
      go_wp2_with fail
      go_cut [10, 11, 12, 13] from 48 to 60 (fun v10 v11 v12 v13 wx => ∃ x1 x2 x3, v10 = x1 ∧ v11 = x2 ∧ v12 = x3 ∧ v13 = .int .i64 12 ∧ OwnSp 44 wx w3.heap.size x1 L 3 ∧ OwnInts wx w3.heap.size x2 stay ∧ OwnInts wx w3.heap.size x3 roots ∧ Apart x1 x2 ∧ Apart x1 x3 ∧ Apart x2 x3 ∧ Keeps w3 wx)
      case first =>
        clear HSt HPl HRo HC HAw
        refine wp_region_noPanic ?_
        refine wp_region_held_drew (S := (fun w' => Keeps w3 w')) (by kernel_rfl) (Touch.refl _ w3).drew (fun hHeld => ?_)
        refine' wpAnyH_take (i := 1) ?hi1_4 ?hs1_4 ?hf1_4 ?hr1_4 ?hQ1_4 ?hy1_4 (by assumption) ?rest1_4
        case hi1_4 => simp only [List.getElem?_toArray, List.getElem?_cons_succ, List.getElem?_cons_zero] <;> rfl
        case hs1_4 => kernel_rfl
        case hf1_4 => kernel_rfl
        case hr1_4 => kernel_rfl
        case hQ1_4 => exact fun _ _ _ h => h
        case hy1_4 => exact Or.inl ⟨by rfl, fun w hSw => by have q4 := cell_keep p4 hSw; have q6 := cell_keep p6 hSw; have q7 := cell_keep p7 hSw; go_simp <;> (try with_reducible rfl)⟩
        simp only [Act.put, List.setIfInBounds_toArray, List.set_cons_zero, List.set_cons_succ]
        refine' wpAnyH_take (i := 2) ?hi2_4 ?hs2_4 ?hf2_4 ?hr2_4 ?hQ2_4 ?hy2_4 (by assumption) ?rest2_4
        case hi2_4 => simp only [List.getElem?_toArray, List.getElem?_cons_succ, List.getElem?_cons_zero] <;> rfl
        case hs2_4 => kernel_rfl
        case hf2_4 => kernel_rfl
        case hr2_4 => kernel_rfl
        case hQ2_4 => exact fun _ _ _ h => h
        case hy2_4 => exact Or.inl ⟨by rfl, fun w hSw => by have q4 := cell_keep p4 hSw; have q6 := cell_keep p6 hSw; have q7 := cell_keep p7 hSw; go_simp <;> (try with_reducible rfl)⟩
        simp only [Act.put, List.setIfInBounds_toArray, List.set_cons_zero, List.set_cons_succ]
        refine' wpAnyH_take (i := 5) ?hi5_4 ?hs5_4 ?hf5_4 ?hr5_4 ?hQ5_4 ?hy5_4 (by assumption) ?rest5_4
        case hi5_4 => simp only [List.getElem?_toArray, List.getElem?_cons_succ, List.getElem?_cons_zero] <;> rfl
        case hs5_4 => kernel_rfl
        case hf5_4 => kernel_rfl
        case hr5_4 => kernel_rfl
        case hQ5_4 => exact fun _ _ _ h => h
        case hy5_4 => exact Or.inl ⟨by rfl, fun w hSw => by have q4 := cell_keep p4 hSw; have q6 := cell_keep p6 hSw; have q7 := cell_keep p7 hSw; go_simp <;> (try with_reducible rfl)⟩
        simp only [Act.put, List.setIfInBounds_toArray, List.set_cons_zero, List.set_cons_succ]
        refine' wpAnyH_take (i := 6) ?hi6_4 ?hs6_4 ?hf6_4 ?hr6_4 ?hQ6_4 ?hy6_4 (by assumption) ?rest6_4
        case hi6_4 => simp only [List.getElem?_toArray, List.getElem?_cons_succ, List.getElem?_cons_zero] <;> rfl
        case hs6_4 => kernel_rfl
        case hf6_4 => kernel_rfl
        case hr6_4 => kernel_rfl
        case hQ6_4 => exact fun _ _ _ h => h
        case hy6_4 => exact Or.inl ⟨by rfl, fun w hSw => by have q4 := cell_keep p4 hSw; have q6 := cell_keep p6 hSw; have q7 := cell_keep p7 hSw; go_simp <;> (try with_reducible rfl)⟩
        simp only [Act.put, List.setIfInBounds_toArray, List.set_cons_zero, List.set_cons_succ]
        refine' wpAnyH_take (i := 9) ?hi9_4 ?hs9_4 ?hf9_4 ?hr9_4 ?hQ9_4 ?hy9_4 (by assumption) ?rest9_4
        case hi9_4 => simp only [List.getElem?_toArray, List.getElem?_cons_succ, List.getElem?_cons_zero] <;> rfl
        case hs9_4 => kernel_rfl
        case hf9_4 => kernel_rfl
        case hr9_4 => kernel_rfl
        case hQ9_4 => exact fun _ _ _ h => h
        case hy9_4 => exact Or.inl ⟨by rfl, fun w hSw => by have q4 := cell_keep p4 hSw; have q6 := cell_keep p6 hSw; have q7 := cell_keep p7 hSw; go_simp <;> (try with_reducible rfl)⟩
        simp only [Act.put, List.setIfInBounds_toArray, List.set_cons_zero, List.set_cons_succ]
        refine' wpAnyH_take (i := 10) ?hi10_4 ?hs10_4 ?hf10_4 ?hr10_4 ?hQ10_4 ?hy10_4 (by assumption) ?rest10_4
        case hi10_4 => simp only [List.getElem?_toArray, List.getElem?_cons_succ, List.getElem?_cons_zero] <;> rfl
        case hs10_4 => kernel_rfl
        case hf10_4 => kernel_rfl
        case hr10_4 => kernel_rfl
        case hQ10_4 => exact fun _ _ _ h => h
        case hy10_4 => exact Or.inl ⟨by rfl, fun w hSw => by have q4 := cell_keep p4 hSw; have q6 := cell_keep p6 hSw; have q7 := cell_keep p7 hSw; go_simp <;> (try with_reducible rfl)⟩
        simp only [Act.put, List.setIfInBounds_toArray, List.set_cons_zero, List.set_cons_succ]
        refine named_any (fun W0 hW0 => ?_)
        have k_W0 : Keeps w3 W0 := by rw [hW0]; exact (Touch.refl _ w3).drew
        clear hW0
        refine wpAnyH_ready (rs := [0, 4, 8]) (by kernel_rfl) (by simp) ?_
        refine (AllReadyH.cons rfl (fun K hK => ?_) (AllReadyH.cons rfl (fun K hK => ?_) (AllReadyH.cons rfl (fun K hK => ?_) AllReadyH.nil)))
        · go_simp
          refine hK.out _ _ (Touch.alloc k_W0 _) (fun hHeld => named_any (fun W1 hW_ => ?_))
          clear hK K
          have k_W1 : Keeps w3 W1 := by rw [hW_]; exact Touch.alloc k_W0 _
          have HO1 := Lib.hid (show OwnSp 44 W1 w3.heap.size (.slice (some ⟨W0.heap.size, 0, none⟩) 0 0) L 0 from by rw [hW_]; exact own_sp0 _ W0 w3.heap.size W0.heap.size L rfl k_W0.size)
          clear hW_
          refine wpAnyH_ready (rs := [3, 4, 8]) (by kernel_rfl) (by simp) ?_
          refine (AllReadyH.cons rfl (fun K hK => ?_) (AllReadyH.cons rfl (fun K hK => ?_) (AllReadyH.cons rfl (fun K hK => ?_) AllReadyH.nil)))
          · rw [if_pos (show Region.wanted _ _ = true from rfl)]
            refine wp_app_rd (some 51) rfl (.tmp 48) (.tmp 50) rfl Try.underlying34 info_sp rfl (by decide) w3.heap.size (.slice (some ⟨W0.heap.size, 0, none⟩) 0 0) 0 [] rfl HO1.out ⟨gs, 0, none⟩ 3 scp rfl (spF L) (HRw.out.keep k_W1) (fun j _ => spF_one L j) (by omega) (by decide) k_W1.size ?_
            intro v1 W2 hown hgr hbl
            have k_W2 : Keeps w3 W2 := Keeps.grown k_W1 hgr (fun kk e => (HO1.out.lt kk e).1)
            have HO1 := Lib.hid (show OwnSp 44 W2 w3.heap.size (v1) L 3 from by have h9 := hown; rw [List.nil_append, spcs3] at h9; exact h9)
            clear hown hgr hbl
            refine hK.out _ _ k_W2 (fun hHeld => ?_)
            clear hK K
            simp only [Act.put, List.setIfInBounds_toArray, List.set_cons_zero, List.set_cons_succ]
            refine wpAnyH_ready (rs := [4, 8]) (by kernel_rfl) (by simp) ?_
            refine (AllReadyH.cons rfl (fun K hK => ?_) (AllReadyH.cons rfl (fun K hK => ?_) AllReadyH.nil))
            · go_simp
              refine hK.out _ _ (Touch.alloc k_W2 _) (fun hHeld => named_any (fun W3 hW_ => ?_))
              clear hK K
              have k_W3 : Keeps w3 W3 := by rw [hW_]; exact Touch.alloc k_W2 _
              have HD21 := Lib.hid (show ∀ kk, (.slice (some ⟨W2.heap.size, 0, none⟩) 0 0 : Value).ownBlock = some kk → ∀ kk', (v1 : Value).ownBlock = some kk' → kk ≠ kk' from fun kk e kk' e' => by have := HO1.out.lt kk' e'; have e2 : W2.heap.size = kk := Option.some.inj e; omega)
              have HD12 := Lib.hid (fun kk e kk' e' => (HD21.out kk' e' kk e).symm)
              have HO1 := Lib.hid (show OwnSp 44 W3 w3.heap.size (v1) L 3 from HO1.out.touch (S := fun _ => False) (by rw [hW_]; exact Touch.alloc (Touch.refl _ W2) _) (fun _ _ h => h))
              have HO2 := Lib.hid (show OwnInts W3 w3.heap.size (.slice (some ⟨W2.heap.size, 0, none⟩) 0 0) [] from by rw [hW_]; exact own_empty W2 w3.heap.size W2.heap.size rfl k_W2.size)
              clear hW_
              refine wpAnyH_ready (rs := [7, 8]) (by kernel_rfl) (by simp) ?_
              refine (AllReadyH.cons rfl (fun K hK => ?_) (AllReadyH.cons rfl (fun K hK => ?_) AllReadyH.nil))
              · rw [if_pos (show Region.wanted _ _ = true from rfl)]
                refine wp_app_own (some 55) rfl (.tmp 52) (.tmp 54) rfl w3.heap.size (.slice (some ⟨W2.heap.size, 0, none⟩) 0 0) [] HO2.out rfl _ (.slice sa stay.length sc) stay (HS2.out.keep k_W3) rfl (by simp; omega) k_W3.size ?_
                intro v2 W4 hown hgr hbl
                have k_W4 : Keeps w3 W4 := Keeps.grown k_W3 hgr (fun kk e => (HO2.out.lt kk e).1)
                have HE21 := Lib.hid (show ∀ kk, v2.ownBlock = some kk → ∀ kk', (v1 : Value).ownBlock = some kk' → kk ≠ kk' from fun kk e kk' e' => by { rcases hbl with h | h; { exact HD21.out kk (h ▸ e) kk' e' }; { rw [h] at e; have := HO1.out.lt kk' e'; have e2 : W3.heap.size = kk := Option.some.inj e; omega } })
                have HO1 := Lib.hid (show OwnSp 44 W4 w3.heap.size (v1) L 3 from HO1.out.touch (Touch.grown (S := fun kk => (.slice (some ⟨W2.heap.size, 0, none⟩) 0 0 : Value).ownBlock = some kk) (Touch.refl _ W3) hgr (fun kk e _ => e)) (fun kk e h => HD21.out kk h kk e rfl))
                have HD21 := HE21
                have HD12 := Lib.hid (fun kk e kk' e' => (HE21.out kk' e' kk e).symm)
                have HO2 := Lib.hid (show OwnInts W4 w3.heap.size (v2) stay from hown)
                clear hown hgr hbl HE21
                refine hK.out _ _ k_W4 (fun hHeld => ?_)
                clear hK K
                simp only [Act.put, List.setIfInBounds_toArray, List.set_cons_zero, List.set_cons_succ]
                refine wpAnyH_ready (rs := [8]) (by kernel_rfl) (by simp) ?_
                refine (AllReadyH.cons rfl (fun K hK => ?_) AllReadyH.nil)
                go_simp
                refine hK.out _ _ (Touch.alloc k_W4 _) (fun hHeld => named_any (fun W5 hW_ => ?_))
                clear hK K
                have k_W5 : Keeps w3 W5 := by rw [hW_]; exact Touch.alloc k_W4 _
                have HD31 := Lib.hid (show ∀ kk, (.slice (some ⟨W4.heap.size, 0, none⟩) 0 0 : Value).ownBlock = some kk → ∀ kk', (v1 : Value).ownBlock = some kk' → kk ≠ kk' from fun kk e kk' e' => by have := HO1.out.lt kk' e'; have e2 : W4.heap.size = kk := Option.some.inj e; omega)
                have HD13 := Lib.hid (fun kk e kk' e' => (HD31.out kk' e' kk e).symm)
                have HD32 := Lib.hid (show ∀ kk, (.slice (some ⟨W4.heap.size, 0, none⟩) 0 0 : Value).ownBlock = some kk → ∀ kk', (v2 : Value).ownBlock = some kk' → kk ≠ kk' from fun kk e kk' e' => by have := HO2.out.lt kk' e'; have e2 : W4.heap.size = kk := Option.some.inj e; omega)
                have HD23 := Lib.hid (fun kk e kk' e' => (HD32.out kk' e' kk e).symm)
                have HO1 := Lib.hid (show OwnSp 44 W5 w3.heap.size (v1) L 3 from HO1.out.touch (S := fun _ => False) (by rw [hW_]; exact Touch.alloc (Touch.refl _ W4) _) (fun _ _ h => h))
                have HO2 := Lib.hid (show OwnInts W5 w3.heap.size (v2) stay from HO2.out.touch (S := fun _ => False) (by rw [hW_]; exact Touch.alloc (Touch.refl _ W4) _) (fun _ _ h => h))
                have HO3 := Lib.hid (show OwnInts W5 w3.heap.size (.slice (some ⟨W4.heap.size, 0, none⟩) 0 0) [] from by rw [hW_]; exact own_empty W4 w3.heap.size W4.heap.size rfl k_W4.size)
                clear hW_
                refine wpAnyH_ready (rs := [11]) (by kernel_rfl) (by simp) ?_
                refine (AllReadyH.cons rfl (fun K hK => ?_) AllReadyH.nil)
                rw [if_pos (show Region.wanted _ _ = true from rfl)]
                refine wp_app_own (some 59) rfl (.tmp 56) (.tmp 58) rfl w3.heap.size (.slice (some ⟨W4.heap.size, 0, none⟩) 0 0) [] HO3.out rfl _ (.slice ra roots.length rc') roots (HS3.out.keep k_W5) rfl (by simp; omega) k_W5.size ?_
                intro v3 W6 hown hgr hbl
                have k_W6 : Keeps w3 W6 := Keeps.grown k_W5 hgr (fun kk e => (HO3.out.lt kk e).1)
                have HE31 := Lib.hid (show ∀ kk, v3.ownBlock = some kk → ∀ kk', (v1 : Value).ownBlock = some kk' → kk ≠ kk' from fun kk e kk' e' => by { rcases hbl with h | h; { exact HD31.out kk (h ▸ e) kk' e' }; { rw [h] at e; have := HO1.out.lt kk' e'; have e2 : W5.heap.size = kk := Option.some.inj e; omega } })
                have HE32 := Lib.hid (show ∀ kk, v3.ownBlock = some kk → ∀ kk', (v2 : Value).ownBlock = some kk' → kk ≠ kk' from fun kk e kk' e' => by { rcases hbl with h | h; { exact HD32.out kk (h ▸ e) kk' e' }; { rw [h] at e; have := HO2.out.lt kk' e'; have e2 : W5.heap.size = kk := Option.some.inj e; omega } })
                have HO1 := Lib.hid (show OwnSp 44 W6 w3.heap.size (v1) L 3 from HO1.out.touch (Touch.grown (S := fun kk => (.slice (some ⟨W4.heap.size, 0, none⟩) 0 0 : Value).ownBlock = some kk) (Touch.refl _ W5) hgr (fun kk e _ => e)) (fun kk e h => HD31.out kk h kk e rfl))
                have HO2 := Lib.hid (show OwnInts W6 w3.heap.size (v2) stay from HO2.out.touch (Touch.grown (S := fun kk => (.slice (some ⟨W4.heap.size, 0, none⟩) 0 0 : Value).ownBlock = some kk) (Touch.refl _ W5) hgr (fun kk e _ => e)) (fun kk e h => HD32.out kk h kk e rfl))
                have HD31 := HE31
                have HD13 := Lib.hid (fun kk e kk' e' => (HE31.out kk' e' kk e).symm)
                have HD32 := HE32
                have HD23 := Lib.hid (fun kk e kk' e' => (HE32.out kk' e' kk e).symm)
                have HO3 := Lib.hid (show OwnInts W6 w3.heap.size (v3) roots from hown)
                clear hown hgr hbl HE31 HE32
                refine hK.out _ _ k_W6 (fun hHeld => ?_)
                clear hK K
                simp only [Act.put, List.setIfInBounds_toArray, List.set_cons_zero, List.set_cons_succ]
                refine' wpAnyH_take (i := 12) ?hi12_5 ?hs12_5 ?hf12_5 ?hr12_5 ?hQ12_5 ?hy12_5 (by assumption) ?rest12_5
                case hi12_5 => simp only [List.getElem?_toArray, List.getElem?_cons_succ, List.getElem?_cons_zero] <;> rfl
                case hs12_5 => kernel_rfl
                case hf12_5 => kernel_rfl
                case hr12_5 => kernel_rfl
                case hQ12_5 => exact fun _ _ _ h => h
                case hy12_5 => exact Or.inl ⟨by rfl, fun w hSw => by go_simp <;> (try with_reducible rfl)⟩
                simp only [Act.put, List.setIfInBounds_toArray, List.set_cons_zero, List.set_cons_succ]
                refine' wpAnyH_take (i := 13) ?hi13_5 ?hs13_5 ?hf13_5 ?hr13_5 ?hQ13_5 ?hy13_5 (by assumption) ?rest13_5
                case hi13_5 => simp only [List.getElem?_toArray, List.getElem?_cons_succ, List.getElem?_cons_zero] <;> rfl
                case hs13_5 => kernel_rfl
                case hf13_5 => kernel_rfl
                case hr13_5 => kernel_rfl
                case hQ13_5 => exact fun _ _ _ h => h
                case hy13_5 => exact Or.inl ⟨by rfl, fun w hSw => by go_simp <;> (try with_reducible rfl)⟩
                simp only [Act.put, List.setIfInBounds_toArray, List.set_cons_zero, List.set_cons_succ]
                refine' wpAnyH_take (i := 14) ?hi14_5 ?hs14_5 ?hf14_5 ?hr14_5 ?hQ14_5 ?hy14_5 (by assumption) ?rest14_5
                case hi14_5 => simp only [List.getElem?_toArray, List.getElem?_cons_succ, List.getElem?_cons_zero] <;> rfl
                case hs14_5 => kernel_rfl
                case hf14_5 => kernel_rfl
                case hr14_5 => kernel_rfl
                case hQ14_5 => exact fun _ _ _ h => h
                case hy14_5 => exact Or.inl ⟨by rfl, fun w hSw => by go_simp <;> (try with_reducible rfl)⟩
                simp only [Act.put, List.setIfInBounds_toArray, List.set_cons_zero, List.set_cons_succ]
                refine' wpAnyH_take (i := 15) ?hi15_5 ?hs15_5 ?hf15_5 ?hr15_5 ?hQ15_5 ?hy15_5 (by assumption) ?rest15_5
                case hi15_5 => simp only [List.getElem?_toArray, List.getElem?_cons_succ, List.getElem?_cons_zero] <;> rfl
                case hs15_5 => kernel_rfl
                case hf15_5 => kernel_rfl
                case hr15_5 => kernel_rfl
                case hQ15_5 => exact fun _ _ _ h => h
                case hy15_5 => exact Or.inl ⟨by rfl, fun w hSw => by go_simp <;> (try with_reducible rfl)⟩
                simp only [Act.put, List.setIfInBounds_toArray, List.set_cons_zero, List.set_cons_succ]
                refine wpAnyH_done (by kernel_rfl) ?_ _
                refine NoPanic.normal ?_
                go_wp2_with fail
                go_meet
                exact ⟨v1, v2, v3, rfl, rfl, rfl, rfl, HO1.out, HO2.out, HO3.out, HD12.out, HD13.out, HD23.out, k_W6⟩
              · go_simp
                refine hK.out _ _ (Touch.alloc k_W3 _) (fun hHeld => named_any (fun W4 hW_ => ?_))
                clear hK K
                have k_W4 : Keeps w3 W4 := by rw [hW_]; exact Touch.alloc k_W3 _
                have HD31 := Lib.hid (show ∀ kk, (.slice (some ⟨W3.heap.size, 0, none⟩) 0 0 : Value).ownBlock = some kk → ∀ kk', (v1 : Value).ownBlock = some kk' → kk ≠ kk' from fun kk e kk' e' => by have := HO1.out.lt kk' e'; have e2 : W3.heap.size = kk := Option.some.inj e; omega)
                have HD13 := Lib.hid (fun kk e kk' e' => (HD31.out kk' e' kk e).symm)
                have HD32 := Lib.hid (show ∀ kk, (.slice (some ⟨W3.heap.size, 0, none⟩) 0 0 : Value).ownBlock = some kk → ∀ kk', (.slice (some ⟨W2.heap.size, 0, none⟩) 0 0 : Value).ownBlock = some kk' → kk ≠ kk' from fun kk e kk' e' => by have := HO2.out.lt kk' e'; have e2 : W3.heap.size = kk := Option.some.inj e; omega)
                have HD23 := Lib.hid (fun kk e kk' e' => (HD32.out kk' e' kk e).symm)
                have HO1 := Lib.hid (show OwnSp 44 W4 w3.heap.size (v1) L 3 from HO1.out.touch (S := fun _ => False) (by rw [hW_]; exact Touch.alloc (Touch.refl _ W3) _) (fun _ _ h => h))
                have HO2 := Lib.hid (show OwnInts W4 w3.heap.size (.slice (some ⟨W2.heap.size, 0, none⟩) 0 0) [] from HO2.out.touch (S := fun _ => False) (by rw [hW_]; exact Touch.alloc (Touch.refl _ W3) _) (fun _ _ h => h))
                have HO3 := Lib.hid (show OwnInts W4 w3.heap.size (.slice (some ⟨W3.heap.size, 0, none⟩) 0 0) [] from by rw [hW_]; exact own_empty W3 w3.heap.size W3.heap.size rfl k_W3.size)
                clear hW_
                refine wpAnyH_ready (rs := [7]) (by kernel_rfl) (by simp) ?_
                refine (AllReadyH.cons rfl (fun K hK => ?_) AllReadyH.nil)
                rw [if_pos (show Region.wanted _ _ = true from rfl)]
                refine wp_app_own (some 55) rfl (.tmp 52) (.tmp 54) rfl w3.heap.size (.slice (some ⟨W2.heap.size, 0, none⟩) 0 0) [] HO2.out rfl _ (.slice sa stay.length sc) stay (HS2.out.keep k_W4) rfl (by simp; omega) k_W4.size ?_
                intro v2 W5 hown hgr hbl
                have k_W5 : Keeps w3 W5 := Keeps.grown k_W4 hgr (fun kk e => (HO2.out.lt kk e).1)
                have HE21 := Lib.hid (show ∀ kk, v2.ownBlock = some kk → ∀ kk', (v1 : Value).ownBlock = some kk' → kk ≠ kk' from fun kk e kk' e' => by { rcases hbl with h | h; { exact HD21.out kk (h ▸ e) kk' e' }; { rw [h] at e; have := HO1.out.lt kk' e'; have e2 : W4.heap.size = kk := Option.some.inj e; omega } })
                have HE23 := Lib.hid (show ∀ kk, v2.ownBlock = some kk → ∀ kk', (.slice (some ⟨W3.heap.size, 0, none⟩) 0 0 : Value).ownBlock = some kk' → kk ≠ kk' from fun kk e kk' e' => by { rcases hbl with h | h; { exact HD23.out kk (h ▸ e) kk' e' }; { rw [h] at e; have := HO3.out.lt kk' e'; have e2 : W4.heap.size = kk := Option.some.inj e; omega } })
                have HO1 := Lib.hid (show OwnSp 44 W5 w3.heap.size (v1) L 3 from HO1.out.touch (Touch.grown (S := fun kk => (.slice (some ⟨W2.heap.size, 0, none⟩) 0 0 : Value).ownBlock = some kk) (Touch.refl _ W4) hgr (fun kk e _ => e)) (fun kk e h => HD21.out kk h kk e rfl))
                have HO3 := Lib.hid (show OwnInts W5 w3.heap.size (.slice (some ⟨W3.heap.size, 0, none⟩) 0 0) [] from HO3.out.touch (Touch.grown (S := fun kk => (.slice (some ⟨W2.heap.size, 0, none⟩) 0 0 : Value).ownBlock = some kk) (Touch.refl _ W4) hgr (fun kk e _ => e)) (fun kk e h => HD23.out kk h kk e rfl))
                have HD21 := HE21
                have HD12 := Lib.hid (fun kk e kk' e' => (HE21.out kk' e' kk e).symm)
                have HD23 := HE23
                have HD32 := Lib.hid (fun kk e kk' e' => (HE23.out kk' e' kk e).symm)
                have HO2 := Lib.hid (show OwnInts W5 w3.heap.size (v2) stay from hown)
                clear hown hgr hbl HE21 HE23
                refine hK.out _ _ k_W5 (fun hHeld => ?_)
                clear hK K
                simp only [Act.put, List.setIfInBounds_toArray, List.set_cons_zero, List.set_cons_succ]
                refine wpAnyH_ready (rs := [11]) (by kernel_rfl) (by simp) ?_
                refine (AllReadyH.cons rfl (fun K hK => ?_) AllReadyH.nil)
                rw [if_pos (show Region.wanted _ _ = true from rfl)]
                refine wp_app_own (some 59) rfl (.tmp 56) (.tmp 58) rfl w3.heap.size (.slice (some ⟨W3.heap.size, 0, none⟩) 0 0) [] HO3.out rfl _ (.slice ra roots.length rc') roots (HS3.out.keep k_W5) rfl (by simp; omega) k_W5.size ?_
                intro v3 W6 hown hgr hbl
                have k_W6 : Keeps w3 W6 := Keeps.grown k_W5 hgr (fun kk e => (HO3.out.lt kk e).1)
                have HE31 := Lib.hid (show ∀ kk, v3.ownBlock = some kk → ∀ kk', (v1 : Value).ownBlock = some kk' → kk ≠ kk' from fun kk e kk' e' => by { rcases hbl with h | h; { exact HD31.out kk (h ▸ e) kk' e' }; { rw [h] at e; have := HO1.out.lt kk' e'; have e2 : W5.heap.size = kk := Option.some.inj e; omega } })
                have HE32 := Lib.hid (show ∀ kk, v3.ownBlock = some kk → ∀ kk', (v2 : Value).ownBlock = some kk' → kk ≠ kk' from fun kk e kk' e' => by { rcases hbl with h | h; { exact HD32.out kk (h ▸ e) kk' e' }; { rw [h] at e; have := HO2.out.lt kk' e'; have e2 : W5.heap.size = kk := Option.some.inj e; omega } })
                have HO1 := Lib.hid (show OwnSp 44 W6 w3.heap.size (v1) L 3 from HO1.out.touch (Touch.grown (S := fun kk => (.slice (some ⟨W3.heap.size, 0, none⟩) 0 0 : Value).ownBlock = some kk) (Touch.refl _ W5) hgr (fun kk e _ => e)) (fun kk e h => HD31.out kk h kk e rfl))
                have HO2 := Lib.hid (show OwnInts W6 w3.heap.size (v2) stay from HO2.out.touch (Touch.grown (S := fun kk => (.slice (some ⟨W3.heap.size, 0, none⟩) 0 0 : Value).ownBlock = some kk) (Touch.refl _ W5) hgr (fun kk e _ => e)) (fun kk e h => HD32.out kk h kk e rfl))
                have HD31 := HE31
                have HD13 := Lib.hid (fun kk e kk' e' => (HE31.out kk' e' kk e).symm)
                have HD32 := HE32
                have HD23 := Lib.hid (fun kk e kk' e' => (HE32.out kk' e' kk e).symm)
                have HO3 := Lib.hid (show OwnInts W6 w3.heap.size (v3) roots from hown)
                clear hown hgr hbl HE31 HE32
                refine hK.out _ _ k_W6 (fun hHeld => ?_)
                clear hK K
                simp only [Act.put, List.setIfInBounds_toArray, List.set_cons_zero, List.set_cons_succ]
                refine' wpAnyH_take (i := 12) ?hi12_6 ?hs12_6 ?hf12_6 ?hr12_6 ?hQ12_6 ?hy12_6 (by assumption) ?rest12_6
                case hi12_6 => simp only [List.getElem?_toArray, List.getElem?_cons_succ, List.getElem?_cons_zero] <;> rfl
                case hs12_6 => kernel_rfl
                case hf12_6 => kernel_rfl
                case hr12_6 => kernel_rfl
                case hQ12_6 => exact fun _ _ _ h => h
                case hy12_6 => exact Or.inl ⟨by rfl, fun w hSw => by go_simp <;> (try with_reducible rfl)⟩
                simp only [Act.put, List.setIfInBounds_toArray, List.set_cons_zero, List.set_cons_succ]
                refine' wpAnyH_take (i := 13) ?hi13_6 ?hs13_6 ?hf13_6 ?hr13_6 ?hQ13_6 ?hy13_6 (by assumption) ?rest13_6
                case hi13_6 => simp only [List.getElem?_toArray, List.getElem?_cons_succ, List.getElem?_cons_zero] <;> rfl
                case hs13_6 => kernel_rfl
                case hf13_6 => kernel_rfl
                case hr13_6 => kernel_rfl
                case hQ13_6 => exact fun _ _ _ h => h
                case hy13_6 => exact Or.inl ⟨by rfl, fun w hSw => by go_simp <;> (try with_reducible rfl)⟩
                simp only [Act.put, List.setIfInBounds_toArray, List.set_cons_zero, List.set_cons_succ]
                refine' wpAnyH_take (i := 14) ?hi14_6 ?hs14_6 ?hf14_6 ?hr14_6 ?hQ14_6 ?hy14_6 (by assumption) ?rest14_6
                case hi14_6 => simp only [List.getElem?_toArray, List.getElem?_cons_succ, List.getElem?_cons_zero] <;> rfl
                case hs14_6 => kernel_rfl
                case hf14_6 => kernel_rfl
                case hr14_6 => kernel_rfl
                case hQ14_6 => exact fun _ _ _ h => h
                case hy14_6 => exact Or.inl ⟨by rfl, fun w hSw => by go_simp <;> (try with_reducible rfl)⟩
                simp only [Act.put, List.setIfInBounds_toArray, List.set_cons_zero, List.set_cons_succ]
                refine' wpAnyH_take (i := 15) ?hi15_6 ?hs15_6 ?hf15_6 ?hr15_6 ?hQ15_6 ?hy15_6 (by assumption) ?rest15_6
                case hi15_6 => simp only [List.getElem?_toArray, List.getElem?_cons_succ, List.getElem?_cons_zero] <;> rfl
                case hs15_6 => kernel_rfl
                case hf15_6 => kernel_rfl
                case hr15_6 => kernel_rfl
                case hQ15_6 => exact fun _ _ _ h => h
                case hy15_6 => exact Or.inl ⟨by rfl, fun w hSw => by go_simp <;> (try with_reducible rfl)⟩
                simp only [Act.put, List.setIfInBounds_toArray, List.set_cons_zero, List.set_cons_succ]
                refine wpAnyH_done (by kernel_rfl) ?_ _
                refine NoPanic.normal ?_
                go_wp2_with fail
                go_meet
                exact ⟨v1, v2, v3, rfl, rfl, rfl, rfl, HO1.out, HO2.out, HO3.out, HD12.out, HD13.out, HD23.out, k_W6⟩
            · go_simp
              refine hK.out _ _ (Touch.alloc k_W2 _) (fun hHeld => named_any (fun W3 hW_ => ?_))
              clear hK K
              have k_W3 : Keeps w3 W3 := by rw [hW_]; exact Touch.alloc k_W2 _
              have HD31 := Lib.hid (show ∀ kk, (.slice (some ⟨W2.heap.size, 0, none⟩) 0 0 : Value).ownBlock = some kk → ∀ kk', (v1 : Value).ownBlock = some kk' → kk ≠ kk' from fun kk e kk' e' => by have := HO1.out.lt kk' e'; have e2 : W2.heap.size = kk := Option.some.inj e; omega)
              have HD13 := Lib.hid (fun kk e kk' e' => (HD31.out kk' e' kk e).symm)
              have HO1 := Lib.hid (show OwnSp 44 W3 w3.heap.size (v1) L 3 from HO1.out.touch (S := fun _ => False) (by rw [hW_]; exact Touch.alloc (Touch.refl _ W2) _) (fun _ _ h => h))
              have HO3 := Lib.hid (show OwnInts W3 w3.heap.size (.slice (some ⟨W2.heap.size, 0, none⟩) 0 0) [] from by rw [hW_]; exact own_empty W2 w3.heap.size W2.heap.size rfl k_W2.size)
              clear hW_
              refine wpAnyH_ready (rs := [4]) (by kernel_rfl) (by simp) ?_
              refine (AllReadyH.cons rfl (fun K hK => ?_) AllReadyH.nil)
              go_simp
              refine hK.out _ _ (Touch.alloc k_W3 _) (fun hHeld => named_any (fun W4 hW_ => ?_))
              clear hK K
              have k_W4 : Keeps w3 W4 := by rw [hW_]; exact Touch.alloc k_W3 _
              have HD21 := Lib.hid (show ∀ kk, (.slice (some ⟨W3.heap.size, 0, none⟩) 0 0 : Value).ownBlock = some kk → ∀ kk', (v1 : Value).ownBlock = some kk' → kk ≠ kk' from fun kk e kk' e' => by have := HO1.out.lt kk' e'; have e2 : W3.heap.size = kk := Option.some.inj e; omega)
              have HD12 := Lib.hid (fun kk e kk' e' => (HD21.out kk' e' kk e).symm)
              have HD23 := Lib.hid (show ∀ kk, (.slice (some ⟨W3.heap.size, 0, none⟩) 0 0 : Value).ownBlock = some kk → ∀ kk', (.slice (some ⟨W2.heap.size, 0, none⟩) 0 0 : Value).ownBlock = some kk' → kk ≠ kk' from fun kk e kk' e' => by have := HO3.out.lt kk' e'; have e2 : W3.heap.size = kk := Option.some.inj e; omega)
              have HD32 := Lib.hid (fun kk e kk' e' => (HD23.out kk' e' kk e).symm)
              have HO1 := Lib.hid (show OwnSp 44 W4 w3.heap.size (v1) L 3 from HO1.out.touch (S := fun _ => False) (by rw [hW_]; exact Touch.alloc (Touch.refl _ W3) _) (fun _ _ h => h))
              have HO3 := Lib.hid (show OwnInts W4 w3.heap.size (.slice (some ⟨W2.heap.size, 0, none⟩) 0 0) [] from HO3.out.touch (S := fun _ => False) (by rw [hW_]; exact Touch.alloc (Touch.refl _ W3) _) (fun _ _ h => h))
              have HO2 := Lib.hid (show OwnInts W4 w3.heap.size (.slice (some ⟨W3.heap.size, 0, none⟩) 0 0) [] from by rw [hW_]; exact own_empty W3 w3.heap.size W3.heap.size rfl k_W3.size)
              clear hW_
              refine wpAnyH_ready (rs := [7]) (by kernel_rfl) (by simp) ?_
              refine (AllReadyH.cons rfl (fun K hK => ?_) AllReadyH.nil)
              rw [if_pos (show Region.wanted _ _ = true from rfl)]
              refine wp_app_own (some 55) rfl (.tmp 52) (.tmp 54) rfl w3.heap.size (.slice (some ⟨W3.heap.size, 0, none⟩) 0 0) [] HO2.out rfl _ (.slice sa stay.length sc) stay (HS2.out.keep k_W4) rfl (by simp; omega) k_W4.size ?_
              intro v2 W5 hown hgr hbl
              have k_W5 : Keeps w3 W5 := Keeps.grown k_W4 hgr (fun kk e => (HO2.out.lt kk e).1)
              have HE21 := Lib.hid (show ∀ kk, v2.ownBlock = some kk → ∀ kk', (v1 : Value).ownBlock = some kk' → kk ≠ kk' from fun kk e kk' e' => by { rcases hbl with h | h; { exact HD21.out kk (h ▸ e) kk' e' }; { rw [h] at e; have := HO1.out.lt kk' e'; have e2 : W4.heap.size = kk := Option.some.inj e; omega } })
              have HE23 := Lib.hid (show ∀ kk, v2.ownBlock = some kk → ∀ kk', (.slice (some ⟨W2.heap.size, 0, none⟩) 0 0 : Value).ownBlock = some kk' → kk ≠ kk' from fun kk e kk' e' => by { rcases hbl with h | h; { exact HD23.out kk (h ▸ e) kk' e' }; { rw [h] at e; have := HO3.out.lt kk' e'; have e2 : W4.heap.size = kk := Option.some.inj e; omega } })
              have HO1 := Lib.hid (show OwnSp 44 W5 w3.heap.size (v1) L 3 from HO1.out.touch (Touch.grown (S := fun kk => (.slice (some ⟨W3.heap.size, 0, none⟩) 0 0 : Value).ownBlock = some kk) (Touch.refl _ W4) hgr (fun kk e _ => e)) (fun kk e h => HD21.out kk h kk e rfl))
              have HO3 := Lib.hid (show OwnInts W5 w3.heap.size (.slice (some ⟨W2.heap.size, 0, none⟩) 0 0) [] from HO3.out.touch (Touch.grown (S := fun kk => (.slice (some ⟨W3.heap.size, 0, none⟩) 0 0 : Value).ownBlock = some kk) (Touch.refl _ W4) hgr (fun kk e _ => e)) (fun kk e h => HD23.out kk h kk e rfl))
              have HD21 := HE21
              have HD12 := Lib.hid (fun kk e kk' e' => (HE21.out kk' e' kk e).symm)
              have HD23 := HE23
              have HD32 := Lib.hid (fun kk e kk' e' => (HE23.out kk' e' kk e).symm)
              have HO2 := Lib.hid (show OwnInts W5 w3.heap.size (v2) stay from hown)
              clear hown hgr hbl HE21 HE23
              refine hK.out _ _ k_W5 (fun hHeld => ?_)
              clear hK K
              simp only [Act.put, List.setIfInBounds_toArray, List.set_cons_zero, List.set_cons_succ]
              refine wpAnyH_ready (rs := [11]) (by kernel_rfl) (by simp) ?_
              refine (AllReadyH.cons rfl (fun K hK => ?_) AllReadyH.nil)
              rw [if_pos (show Region.wanted _ _ = true from rfl)]
              refine wp_app_own (some 59) rfl (.tmp 56) (.tmp 58) rfl w3.heap.size (.slice (some ⟨W2.heap.size, 0, none⟩) 0 0) [] HO3.out rfl _ (.slice ra roots.length rc') roots (HS3.out.keep k_W5) rfl (by simp; omega) k_W5.size ?_
              intro v3 W6 hown hgr hbl
              have k_W6 : Keeps w3 W6 := Keeps.grown k_W5 hgr (fun kk e => (HO3.out.lt kk e).1)
              have HE31 := Lib.hid (show ∀ kk, v3.ownBlock = some kk → ∀ kk', (v1 : Value).ownBlock = some kk' → kk ≠ kk' from fun kk e kk' e' => by { rcases hbl with h | h; { exact HD31.out kk (h ▸ e) kk' e' }; { rw [h] at e; have := HO1.out.lt kk' e'; have e2 : W5.heap.size = kk := Option.some.inj e; omega } })
              have HE32 := Lib.hid (show ∀ kk, v3.ownBlock = some kk → ∀ kk', (v2 : Value).ownBlock = some kk' → kk ≠ kk' from fun kk e kk' e' => by { rcases hbl with h | h; { exact HD32.out kk (h ▸ e) kk' e' }; { rw [h] at e; have := HO2.out.lt kk' e'; have e2 : W5.heap.size = kk := Option.some.inj e; omega } })
              have HO1 := Lib.hid (show OwnSp 44 W6 w3.heap.size (v1) L 3 from HO1.out.touch (Touch.grown (S := fun kk => (.slice (some ⟨W2.heap.size, 0, none⟩) 0 0 : Value).ownBlock = some kk) (Touch.refl _ W5) hgr (fun kk e _ => e)) (fun kk e h => HD31.out kk h kk e rfl))
              have HO2 := Lib.hid (show OwnInts W6 w3.heap.size (v2) stay from HO2.out.touch (Touch.grown (S := fun kk => (.slice (some ⟨W2.heap.size, 0, none⟩) 0 0 : Value).ownBlock = some kk) (Touch.refl _ W5) hgr (fun kk e _ => e)) (fun kk e h => HD32.out kk h kk e rfl))
              have HD31 := HE31
              have HD13 := Lib.hid (fun kk e kk' e' => (HE31.out kk' e' kk e).symm)
              have HD32 := HE32
              have HD23 := Lib.hid (fun kk e kk' e' => (HE32.out kk' e' kk e).symm)
              have HO3 := Lib.hid (show OwnInts W6 w3.heap.size (v3) roots from hown)
              clear hown hgr hbl HE31 HE32
              refine hK.out _ _ k_W6 (fun hHeld => ?_)
              clear hK K
              simp only [Act.put, List.setIfInBounds_toArray, List.set_cons_zero, List.set_cons_succ]
              refine' wpAnyH_take (i := 12) ?hi12_7 ?hs12_7 ?hf12_7 ?hr12_7 ?hQ12_7 ?hy12_7 (by assumption) ?rest12_7
              case hi12_7 => simp only [List.getElem?_toArray, List.getElem?_cons_succ, List.getElem?_cons_zero] <;> rfl
              case hs12_7 => kernel_rfl
              case hf12_7 => kernel_rfl
              case hr12_7 => kernel_rfl
              case hQ12_7 => exact fun _ _ _ h => h
              case hy12_7 => exact Or.inl ⟨by rfl, fun w hSw => by go_simp <;> (try with_reducible rfl)⟩
              simp only [Act.put, List.setIfInBounds_toArray, List.set_cons_zero, List.set_cons_succ]
              refine' wpAnyH_take (i := 13) ?hi13_7 ?hs13_7 ?hf13_7 ?hr13_7 ?hQ13_7 ?hy13_7 (by assumption) ?rest13_7
              case hi13_7 => simp only [List.getElem?_toArray, List.getElem?_cons_succ, List.getElem?_cons_zero] <;> rfl
              case hs13_7 => kernel_rfl
              case hf13_7 => kernel_rfl
              case hr13_7 => kernel_rfl
              case hQ13_7 => exact fun _ _ _ h => h
              case hy13_7 => exact Or.inl ⟨by rfl, fun w hSw => by go_simp <;> (try with_reducible rfl)⟩
              simp only [Act.put, List.setIfInBounds_toArray, List.set_cons_zero, List.set_cons_succ]
              refine' wpAnyH_take (i := 14) ?hi14_7 ?hs14_7 ?hf14_7 ?hr14_7 ?hQ14_7 ?hy14_7 (by assumption) ?rest14_7
              case hi14_7 => simp only [List.getElem?_toArray, List.getElem?_cons_succ, List.getElem?_cons_zero] <;> rfl
              case hs14_7 => kernel_rfl
              case hf14_7 => kernel_rfl
              case hr14_7 => kernel_rfl
              case hQ14_7 => exact fun _ _ _ h => h
              case hy14_7 => exact Or.inl ⟨by rfl, fun w hSw => by go_simp <;> (try with_reducible rfl)⟩
              simp only [Act.put, List.setIfInBounds_toArray, List.set_cons_zero, List.set_cons_succ]
              refine' wpAnyH_take (i := 15) ?hi15_7 ?hs15_7 ?hf15_7 ?hr15_7 ?hQ15_7 ?hy15_7 (by assumption) ?rest15_7
              case hi15_7 => simp only [List.getElem?_toArray, List.getElem?_cons_succ, List.getElem?_cons_zero] <;> rfl
              case hs15_7 => kernel_rfl
              case hf15_7 => kernel_rfl
              case hr15_7 => kernel_rfl
              case hQ15_7 => exact fun _ _ _ h => h
              case hy15_7 => exact Or.inl ⟨by rfl, fun w hSw => by go_simp <;> (try with_reducible rfl)⟩
              simp only [Act.put, List.setIfInBounds_toArray, List.set_cons_zero, List.set_cons_succ]
              refine wpAnyH_done (by kernel_rfl) ?_ _
              refine NoPanic.normal ?_
              go_wp2_with fail
              go_meet
              exact ⟨v1, v2, v3, rfl, rfl, rfl, rfl, HO1.out, HO2.out, HO3.out, HD12.out, HD13.out, HD23.out, k_W6⟩
          · go_simp
            refine hK.out _ _ (Touch.alloc k_W1 _) (fun hHeld => named_any (fun W2 hW_ => ?_))
            clear hK K
            have k_W2 : Keeps w3 W2 := by rw [hW_]; exact Touch.alloc k_W1 _
            have HD21 := Lib.hid (show ∀ kk, (.slice (some ⟨W1.heap.size, 0, none⟩) 0 0 : Value).ownBlock = some kk → ∀ kk', (.slice (some ⟨W0.heap.size, 0, none⟩) 0 0 : Value).ownBlock = some kk' → kk ≠ kk' from fun kk e kk' e' => by have := HO1.out.lt kk' e'; have e2 : W1.heap.size = kk := Option.some.inj e; omega)
            have HD12 := Lib.hid (fun kk e kk' e' => (HD21.out kk' e' kk e).symm)
            have HO1 := Lib.hid (show OwnSp 44 W2 w3.heap.size (.slice (some ⟨W0.heap.size, 0, none⟩) 0 0) L 0 from HO1.out.touch (S := fun _ => False) (by rw [hW_]; exact Touch.alloc (Touch.refl _ W1) _) (fun _ _ h => h))
            have HO2 := Lib.hid (show OwnInts W2 w3.heap.size (.slice (some ⟨W1.heap.size, 0, none⟩) 0 0) [] from by rw [hW_]; exact own_empty W1 w3.heap.size W1.heap.size rfl k_W1.size)
            clear hW_
            refine wpAnyH_ready (rs := [3, 8]) (by kernel_rfl) (by simp) ?_
            refine (AllReadyH.cons rfl (fun K hK => ?_) (AllReadyH.cons rfl (fun K hK => ?_) AllReadyH.nil))
            · rw [if_pos (show Region.wanted _ _ = true from rfl)]
              refine wp_app_rd (some 51) rfl (.tmp 48) (.tmp 50) rfl Try.underlying34 info_sp rfl (by decide) w3.heap.size (.slice (some ⟨W0.heap.size, 0, none⟩) 0 0) 0 [] rfl HO1.out ⟨gs, 0, none⟩ 3 scp rfl (spF L) (HRw.out.keep k_W2) (fun j _ => spF_one L j) (by omega) (by decide) k_W2.size ?_
              intro v1 W3 hown hgr hbl
              have k_W3 : Keeps w3 W3 := Keeps.grown k_W2 hgr (fun kk e => (HO1.out.lt kk e).1)
              have HE12 := Lib.hid (show ∀ kk, v1.ownBlock = some kk → ∀ kk', (.slice (some ⟨W1.heap.size, 0, none⟩) 0 0 : Value).ownBlock = some kk' → kk ≠ kk' from fun kk e kk' e' => by { rcases hbl with h | h; { exact HD12.out kk (h ▸ e) kk' e' }; { rw [h] at e; have := HO2.out.lt kk' e'; have e2 : W2.heap.size = kk := Option.some.inj e; omega } })
              have HO2 := Lib.hid (show OwnInts W3 w3.heap.size (.slice (some ⟨W1.heap.size, 0, none⟩) 0 0) [] from HO2.out.touch (Touch.grown (S := fun kk => (.slice (some ⟨W0.heap.size, 0, none⟩) 0 0 : Value).ownBlock = some kk) (Touch.refl _ W2) hgr (fun kk e _ => e)) (fun kk e h => HD12.out kk h kk e rfl))
              have HD12 := HE12
              have HD21 := Lib.hid (fun kk e kk' e' => (HE12.out kk' e' kk e).symm)
              have HO1 := Lib.hid (show OwnSp 44 W3 w3.heap.size (v1) L 3 from by have h9 := hown; rw [List.nil_append, spcs3] at h9; exact h9)
              clear hown hgr hbl HE12
              refine hK.out _ _ k_W3 (fun hHeld => ?_)
              clear hK K
              simp only [Act.put, List.setIfInBounds_toArray, List.set_cons_zero, List.set_cons_succ]
              refine wpAnyH_ready (rs := [7, 8]) (by kernel_rfl) (by simp) ?_
              refine (AllReadyH.cons rfl (fun K hK => ?_) (AllReadyH.cons rfl (fun K hK => ?_) AllReadyH.nil))
              · rw [if_pos (show Region.wanted _ _ = true from rfl)]
                refine wp_app_own (some 55) rfl (.tmp 52) (.tmp 54) rfl w3.heap.size (.slice (some ⟨W1.heap.size, 0, none⟩) 0 0) [] HO2.out rfl _ (.slice sa stay.length sc) stay (HS2.out.keep k_W3) rfl (by simp; omega) k_W3.size ?_
                intro v2 W4 hown hgr hbl
                have k_W4 : Keeps w3 W4 := Keeps.grown k_W3 hgr (fun kk e => (HO2.out.lt kk e).1)
                have HE21 := Lib.hid (show ∀ kk, v2.ownBlock = some kk → ∀ kk', (v1 : Value).ownBlock = some kk' → kk ≠ kk' from fun kk e kk' e' => by { rcases hbl with h | h; { exact HD21.out kk (h ▸ e) kk' e' }; { rw [h] at e; have := HO1.out.lt kk' e'; have e2 : W3.heap.size = kk := Option.some.inj e; omega } })
                have HO1 := Lib.hid (show OwnSp 44 W4 w3.heap.size (v1) L 3 from HO1.out.touch (Touch.grown (S := fun kk => (.slice (some ⟨W1.heap.size, 0, none⟩) 0 0 : Value).ownBlock = some kk) (Touch.refl _ W3) hgr (fun kk e _ => e)) (fun kk e h => HD21.out kk h kk e rfl))
                have HD21 := HE21
                have HD12 := Lib.hid (fun kk e kk' e' => (HE21.out kk' e' kk e).symm)
                have HO2 := Lib.hid (show OwnInts W4 w3.heap.size (v2) stay from hown)
                clear hown hgr hbl HE21
                refine hK.out _ _ k_W4 (fun hHeld => ?_)
                clear hK K
                simp only [Act.put, List.setIfInBounds_toArray, List.set_cons_zero, List.set_cons_succ]
                refine wpAnyH_ready (rs := [8]) (by kernel_rfl) (by simp) ?_
                refine (AllReadyH.cons rfl (fun K hK => ?_) AllReadyH.nil)
                go_simp
                refine hK.out _ _ (Touch.alloc k_W4 _) (fun hHeld => named_any (fun W5 hW_ => ?_))
                clear hK K
                have k_W5 : Keeps w3 W5 := by rw [hW_]; exact Touch.alloc k_W4 _
                have HD31 := Lib.hid (show ∀ kk, (.slice (some ⟨W4.heap.size, 0, none⟩) 0 0 : Value).ownBlock = some kk → ∀ kk', (v1 : Value).ownBlock = some kk' → kk ≠ kk' from fun kk e kk' e' => by have := HO1.out.lt kk' e'; have e2 : W4.heap.size = kk := Option.some.inj e; omega)
                have HD13 := Lib.hid (fun kk e kk' e' => (HD31.out kk' e' kk e).symm)
                have HD32 := Lib.hid (show ∀ kk, (.slice (some ⟨W4.heap.size, 0, none⟩) 0 0 : Value).ownBlock = some kk → ∀ kk', (v2 : Value).ownBlock = some kk' → kk ≠ kk' from fun kk e kk' e' => by have := HO2.out.lt kk' e'; have e2 : W4.heap.size = kk := Option.some.inj e; omega)
                have HD23 := Lib.hid (fun kk e kk' e' => (HD32.out kk' e' kk e).symm)
                have HO1 := Lib.hid (show OwnSp 44 W5 w3.heap.size (v1) L 3 from HO1.out.touch (S := fun _ => False) (by rw [hW_]; exact Touch.alloc (Touch.refl _ W4) _) (fun _ _ h => h))
                have HO2 := Lib.hid (show OwnInts W5 w3.heap.size (v2) stay from HO2.out.touch (S := fun _ => False) (by rw [hW_]; exact Touch.alloc (Touch.refl _ W4) _) (fun _ _ h => h))
                have HO3 := Lib.hid (show OwnInts W5 w3.heap.size (.slice (some ⟨W4.heap.size, 0, none⟩) 0 0) [] from by rw [hW_]; exact own_empty W4 w3.heap.size W4.heap.size rfl k_W4.size)
                clear hW_
                refine wpAnyH_ready (rs := [11]) (by kernel_rfl) (by simp) ?_
                refine (AllReadyH.cons rfl (fun K hK => ?_) AllReadyH.nil)
                rw [if_pos (show Region.wanted _ _ = true from rfl)]
                refine wp_app_own (some 59) rfl (.tmp 56) (.tmp 58) rfl w3.heap.size (.slice (some ⟨W4.heap.size, 0, none⟩) 0 0) [] HO3.out rfl _ (.slice ra roots.length rc') roots (HS3.out.keep k_W5) rfl (by simp; omega) k_W5.size ?_
                intro v3 W6 hown hgr hbl
                have k_W6 : Keeps w3 W6 := Keeps.grown k_W5 hgr (fun kk e => (HO3.out.lt kk e).1)
                have HE31 := Lib.hid (show ∀ kk, v3.ownBlock = some kk → ∀ kk', (v1 : Value).ownBlock = some kk' → kk ≠ kk' from fun kk e kk' e' => by { rcases hbl with h | h; { exact HD31.out kk (h ▸ e) kk' e' }; { rw [h] at e; have := HO1.out.lt kk' e'; have e2 : W5.heap.size = kk := Option.some.inj e; omega } })
                have HE32 := Lib.hid (show ∀ kk, v3.ownBlock = some kk → ∀ kk', (v2 : Value).ownBlock = some kk' → kk ≠ kk' from fun kk e kk' e' => by { rcases hbl with h | h; { exact HD32.out kk (h ▸ e) kk' e' }; { rw [h] at e; have := HO2.out.lt kk' e'; have e2 : W5.heap.size = kk := Option.some.inj e; omega } })
                have HO1 := Lib.hid (show OwnSp 44 W6 w3.heap.size (v1) L 3 from HO1.out.touch (Touch.grown (S := fun kk => (.slice (some ⟨W4.heap.size, 0, none⟩) 0 0 : Value).ownBlock = some kk) (Touch.refl _ W5) hgr (fun kk e _ => e)) (fun kk e h => HD31.out kk h kk e rfl))
                have HO2 := Lib.hid (show OwnInts W6 w3.heap.size (v2) stay from HO2.out.touch (Touch.grown (S := fun kk => (.slice (some ⟨W4.heap.size, 0, none⟩) 0 0 : Value).ownBlock = some kk) (Touch.refl _ W5) hgr (fun kk e _ => e)) (fun kk e h => HD32.out kk h kk e rfl))
                have HD31 := HE31
                have HD13 := Lib.hid (fun kk e kk' e' => (HE31.out kk' e' kk e).symm)
                have HD32 := HE32
                have HD23 := Lib.hid (fun kk e kk' e' => (HE32.out kk' e' kk e).symm)
                have HO3 := Lib.hid (show OwnInts W6 w3.heap.size (v3) roots from hown)
                clear hown hgr hbl HE31 HE32
                refine hK.out _ _ k_W6 (fun hHeld => ?_)
                clear hK K
                simp only [Act.put, List.setIfInBounds_toArray, List.set_cons_zero, List.set_cons_succ]
                refine' wpAnyH_take (i := 12) ?hi12_8 ?hs12_8 ?hf12_8 ?hr12_8 ?hQ12_8 ?hy12_8 (by assumption) ?rest12_8
                case hi12_8 => simp only [List.getElem?_toArray, List.getElem?_cons_succ, List.getElem?_cons_zero] <;> rfl
                case hs12_8 => kernel_rfl
                case hf12_8 => kernel_rfl
                case hr12_8 => kernel_rfl
                case hQ12_8 => exact fun _ _ _ h => h
                case hy12_8 => exact Or.inl ⟨by rfl, fun w hSw => by go_simp <;> (try with_reducible rfl)⟩
                simp only [Act.put, List.setIfInBounds_toArray, List.set_cons_zero, List.set_cons_succ]
                refine' wpAnyH_take (i := 13) ?hi13_8 ?hs13_8 ?hf13_8 ?hr13_8 ?hQ13_8 ?hy13_8 (by assumption) ?rest13_8
                case hi13_8 => simp only [List.getElem?_toArray, List.getElem?_cons_succ, List.getElem?_cons_zero] <;> rfl
                case hs13_8 => kernel_rfl
                case hf13_8 => kernel_rfl
                case hr13_8 => kernel_rfl
                case hQ13_8 => exact fun _ _ _ h => h
                case hy13_8 => exact Or.inl ⟨by rfl, fun w hSw => by go_simp <;> (try with_reducible rfl)⟩
                simp only [Act.put, List.setIfInBounds_toArray, List.set_cons_zero, List.set_cons_succ]
                refine' wpAnyH_take (i := 14) ?hi14_8 ?hs14_8 ?hf14_8 ?hr14_8 ?hQ14_8 ?hy14_8 (by assumption) ?rest14_8
                case hi14_8 => simp only [List.getElem?_toArray, List.getElem?_cons_succ, List.getElem?_cons_zero] <;> rfl
                case hs14_8 => kernel_rfl
                case hf14_8 => kernel_rfl
                case hr14_8 => kernel_rfl
                case hQ14_8 => exact fun _ _ _ h => h
                case hy14_8 => exact Or.inl ⟨by rfl, fun w hSw => by go_simp <;> (try with_reducible rfl)⟩
                simp only [Act.put, List.setIfInBounds_toArray, List.set_cons_zero, List.set_cons_succ]
                refine' wpAnyH_take (i := 15) ?hi15_8 ?hs15_8 ?hf15_8 ?hr15_8 ?hQ15_8 ?hy15_8 (by assumption) ?rest15_8
                case hi15_8 => simp only [List.getElem?_toArray, List.getElem?_cons_succ, List.getElem?_cons_zero] <;> rfl
                case hs15_8 => kernel_rfl
                case hf15_8 => kernel_rfl
                case hr15_8 => kernel_rfl
                case hQ15_8 => exact fun _ _ _ h => h
                case hy15_8 => exact Or.inl ⟨by rfl, fun w hSw => by go_simp <;> (try with_reducible rfl)⟩
                simp only [Act.put, List.setIfInBounds_toArray, List.set_cons_zero, List.set_cons_succ]
                refine wpAnyH_done (by kernel_rfl) ?_ _
                refine NoPanic.normal ?_
                go_wp2_with fail
                go_meet
                exact ⟨v1, v2, v3, rfl, rfl, rfl, rfl, HO1.out, HO2.out, HO3.out, HD12.out, HD13.out, HD23.out, k_W6⟩
              · go_simp
                refine hK.out _ _ (Touch.alloc k_W3 _) (fun hHeld => named_any (fun W4 hW_ => ?_))
                clear hK K
                have k_W4 : Keeps w3 W4 := by rw [hW_]; exact Touch.alloc k_W3 _
                have HD31 := Lib.hid (show ∀ kk, (.slice (some ⟨W3.heap.size, 0, none⟩) 0 0 : Value).ownBlock = some kk → ∀ kk', (v1 : Value).ownBlock = some kk' → kk ≠ kk' from fun kk e kk' e' => by have := HO1.out.lt kk' e'; have e2 : W3.heap.size = kk := Option.some.inj e; omega)
                have HD13 := Lib.hid (fun kk e kk' e' => (HD31.out kk' e' kk e).symm)
                have HD32 := Lib.hid (show ∀ kk, (.slice (some ⟨W3.heap.size, 0, none⟩) 0 0 : Value).ownBlock = some kk → ∀ kk', (.slice (some ⟨W1.heap.size, 0, none⟩) 0 0 : Value).ownBlock = some kk' → kk ≠ kk' from fun kk e kk' e' => by have := HO2.out.lt kk' e'; have e2 : W3.heap.size = kk := Option.some.inj e; omega)
                have HD23 := Lib.hid (fun kk e kk' e' => (HD32.out kk' e' kk e).symm)
                have HO1 := Lib.hid (show OwnSp 44 W4 w3.heap.size (v1) L 3 from HO1.out.touch (S := fun _ => False) (by rw [hW_]; exact Touch.alloc (Touch.refl _ W3) _) (fun _ _ h => h))
                have HO2 := Lib.hid (show OwnInts W4 w3.heap.size (.slice (some ⟨W1.heap.size, 0, none⟩) 0 0) [] from HO2.out.touch (S := fun _ => False) (by rw [hW_]; exact Touch.alloc (Touch.refl _ W3) _) (fun _ _ h => h))
                have HO3 := Lib.hid (show OwnInts W4 w3.heap.size (.slice (some ⟨W3.heap.size, 0, none⟩) 0 0) [] from by rw [hW_]; exact own_empty W3 w3.heap.size W3.heap.size rfl k_W3.size)
                clear hW_
                refine wpAnyH_ready (rs := [7]) (by kernel_rfl) (by simp) ?_
                refine (AllReadyH.cons rfl (fun K hK => ?_) AllReadyH.nil)
                rw [if_pos (show Region.wanted _ _ = true from rfl)]
                refine wp_app_own (some 55) rfl (.tmp 52) (.tmp 54) rfl w3.heap.size (.slice (some ⟨W1.heap.size, 0, none⟩) 0 0) [] HO2.out rfl _ (.slice sa stay.length sc) stay (HS2.out.keep k_W4) rfl (by simp; omega) k_W4.size ?_
                intro v2 W5 hown hgr hbl
                have k_W5 : Keeps w3 W5 := Keeps.grown k_W4 hgr (fun kk e => (HO2.out.lt kk e).1)
                have HE21 := Lib.hid (show ∀ kk, v2.ownBlock = some kk → ∀ kk', (v1 : Value).ownBlock = some kk' → kk ≠ kk' from fun kk e kk' e' => by { rcases hbl with h | h; { exact HD21.out kk (h ▸ e) kk' e' }; { rw [h] at e; have := HO1.out.lt kk' e'; have e2 : W4.heap.size = kk := Option.some.inj e; omega } })
                have HE23 := Lib.hid (show ∀ kk, v2.ownBlock = some kk → ∀ kk', (.slice (some ⟨W3.heap.size, 0, none⟩) 0 0 : Value).ownBlock = some kk' → kk ≠ kk' from fun kk e kk' e' => by { rcases hbl with h | h; { exact HD23.out kk (h ▸ e) kk' e' }; { rw [h] at e; have := HO3.out.lt kk' e'; have e2 : W4.heap.size = kk := Option.some.inj e; omega } })
                have HO1 := Lib.hid (show OwnSp 44 W5 w3.heap.size (v1) L 3 from HO1.out.touch (Touch.grown (S := fun kk => (.slice (some ⟨W1.heap.size, 0, none⟩) 0 0 : Value).ownBlock = some kk) (Touch.refl _ W4) hgr (fun kk e _ => e)) (fun kk e h => HD21.out kk h kk e rfl))
                have HO3 := Lib.hid (show OwnInts W5 w3.heap.size (.slice (some ⟨W3.heap.size, 0, none⟩) 0 0) [] from HO3.out.touch (Touch.grown (S := fun kk => (.slice (some ⟨W1.heap.size, 0, none⟩) 0 0 : Value).ownBlock = some kk) (Touch.refl _ W4) hgr (fun kk e _ => e)) (fun kk e h => HD23.out kk h kk e rfl))
                have HD21 := HE21
                have HD12 := Lib.hid (fun kk e kk' e' => (HE21.out kk' e' kk e).symm)
                have HD23 := HE23
                have HD32 := Lib.hid (fun kk e kk' e' => (HE23.out kk' e' kk e).symm)
                have HO2 := Lib.hid (show OwnInts W5 w3.heap.size (v2) stay from hown)
                clear hown hgr hbl HE21 HE23
                refine hK.out _ _ k_W5 (fun hHeld => ?_)
                clear hK K
                simp only [Act.put, List.setIfInBounds_toArray, List.set_cons_zero, List.set_cons_succ]
                refine wpAnyH_ready (rs := [11]) (by kernel_rfl) (by simp) ?_
                refine (AllReadyH.cons rfl (fun K hK => ?_) AllReadyH.nil)
                rw [if_pos (show Region.wanted _ _ = true from rfl)]
                refine wp_app_own (some 59) rfl (.tmp 56) (.tmp 58) rfl w3.heap.size (.slice (some ⟨W3.heap.size, 0, none⟩) 0 0) [] HO3.out rfl _ (.slice ra roots.length rc') roots (HS3.out.keep k_W5) rfl (by simp; omega) k_W5.size ?_
                intro v3 W6 hown hgr hbl
                have k_W6 : Keeps w3 W6 := Keeps.grown k_W5 hgr (fun kk e => (HO3.out.lt kk e).1)
                have HE31 := Lib.hid (show ∀ kk, v3.ownBlock = some kk → ∀ kk', (v1 : Value).ownBlock = some kk' → kk ≠ kk' from fun kk e kk' e' => by { rcases hbl with h | h; { exact HD31.out kk (h ▸ e) kk' e' }; { rw [h] at e; have := HO1.out.lt kk' e'; have e2 : W5.heap.size = kk := Option.some.inj e; omega } })
                have HE32 := Lib.hid (show ∀ kk, v3.ownBlock = some kk → ∀ kk', (v2 : Value).ownBlock = some kk' → kk ≠ kk' from fun kk e kk' e' => by { rcases hbl with h | h; { exact HD32.out kk (h ▸ e) kk' e' }; { rw [h] at e; have := HO2.out.lt kk' e'; have e2 : W5.heap.size = kk := Option.some.inj e; omega } })
                have HO1 := Lib.hid (show OwnSp 44 W6 w3.heap.size (v1) L 3 from HO1.out.touch (Touch.grown (S := fun kk => (.slice (some ⟨W3.heap.size, 0, none⟩) 0 0 : Value).ownBlock = some kk) (Touch.refl _ W5) hgr (fun kk e _ => e)) (fun kk e h => HD31.out kk h kk e rfl))
                have HO2 := Lib.hid (show OwnInts W6 w3.heap.size (v2) stay from HO2.out.touch (Touch.grown (S := fun kk => (.slice (some ⟨W3.heap.size, 0, none⟩) 0 0 : Value).ownBlock = some kk) (Touch.refl _ W5) hgr (fun kk e _ => e)) (fun kk e h => HD32.out kk h kk e rfl))
                have HD31 := HE31
                have HD13 := Lib.hid (fun kk e kk' e' => (HE31.out kk' e' kk e).symm)
                have HD32 := HE32
                have HD23 := Lib.hid (fun kk e kk' e' => (HE32.out kk' e' kk e).symm)
                have HO3 := Lib.hid (show OwnInts W6 w3.heap.size (v3) roots from hown)
                clear hown hgr hbl HE31 HE32
                refine hK.out _ _ k_W6 (fun hHeld => ?_)
                clear hK K
                simp only [Act.put, List.setIfInBounds_toArray, List.set_cons_zero, List.set_cons_succ]
                refine' wpAnyH_take (i := 12) ?hi12_9 ?hs12_9 ?hf12_9 ?hr12_9 ?hQ12_9 ?hy12_9 (by assumption) ?rest12_9
                case hi12_9 => simp only [List.getElem?_toArray, List.getElem?_cons_succ, List.getElem?_cons_zero] <;> rfl
                case hs12_9 => kernel_rfl
                case hf12_9 => kernel_rfl
                case hr12_9 => kernel_rfl
                case hQ12_9 => exact fun _ _ _ h => h
                case hy12_9 => exact Or.inl ⟨by rfl, fun w hSw => by go_simp <;> (try with_reducible rfl)⟩
                simp only [Act.put, List.setIfInBounds_toArray, List.set_cons_zero, List.set_cons_succ]
                refine' wpAnyH_take (i := 13) ?hi13_9 ?hs13_9 ?hf13_9 ?hr13_9 ?hQ13_9 ?hy13_9 (by assumption) ?rest13_9
                case hi13_9 => simp only [List.getElem?_toArray, List.getElem?_cons_succ, List.getElem?_cons_zero] <;> rfl
                case hs13_9 => kernel_rfl
                case hf13_9 => kernel_rfl
                case hr13_9 => kernel_rfl
                case hQ13_9 => exact fun _ _ _ h => h
                case hy13_9 => exact Or.inl ⟨by rfl, fun w hSw => by go_simp <;> (try with_reducible rfl)⟩
                simp only [Act.put, List.setIfInBounds_toArray, List.set_cons_zero, List.set_cons_succ]
                refine' wpAnyH_take (i := 14) ?hi14_9 ?hs14_9 ?hf14_9 ?hr14_9 ?hQ14_9 ?hy14_9 (by assumption) ?rest14_9
                case hi14_9 => simp only [List.getElem?_toArray, List.getElem?_cons_succ, List.getElem?_cons_zero] <;> rfl
                case hs14_9 => kernel_rfl
                case hf14_9 => kernel_rfl
                case hr14_9 => kernel_rfl
                case hQ14_9 => exact fun _ _ _ h => h
                case hy14_9 => exact Or.inl ⟨by rfl, fun w hSw => by go_simp <;> (try with_reducible rfl)⟩
                simp only [Act.put, List.setIfInBounds_toArray, List.set_cons_zero, List.set_cons_succ]
                refine' wpAnyH_take (i := 15) ?hi15_9 ?hs15_9 ?hf15_9 ?hr15_9 ?hQ15_9 ?hy15_9 (by assumption) ?rest15_9
                case hi15_9 => simp only [List.getElem?_toArray, List.getElem?_cons_succ, List.getElem?_cons_zero] <;> rfl
                case hs15_9 => kernel_rfl
                case hf15_9 => kernel_rfl
                case hr15_9 => kernel_rfl
                case hQ15_9 => exact fun _ _ _ h => h
                case hy15_9 => exact Or.inl ⟨by rfl, fun w hSw => by go_simp <;> (try with_reducible rfl)⟩
                simp only [Act.put, List.setIfInBounds_toArray, List.set_cons_zero, List.set_cons_succ]
                refine wpAnyH_done (by kernel_rfl) ?_ _
                refine NoPanic.normal ?_
                go_wp2_with fail
                go_meet
                exact ⟨v1, v2, v3, rfl, rfl, rfl, rfl, HO1.out, HO2.out, HO3.out, HD12.out, HD13.out, HD23.out, k_W6⟩
            · go_simp
              refine hK.out _ _ (Touch.alloc k_W2 _) (fun hHeld => named_any (fun W3 hW_ => ?_))
              clear hK K
              have k_W3 : Keeps w3 W3 := by rw [hW_]; exact Touch.alloc k_W2 _
              have HD31 := Lib.hid (show ∀ kk, (.slice (some ⟨W2.heap.size, 0, none⟩) 0 0 : Value).ownBlock = some kk → ∀ kk', (.slice (some ⟨W0.heap.size, 0, none⟩) 0 0 : Value).ownBlock = some kk' → kk ≠ kk' from fun kk e kk' e' => by have := HO1.out.lt kk' e'; have e2 : W2.heap.size = kk := Option.some.inj e; omega)
              have HD13 := Lib.hid (fun kk e kk' e' => (HD31.out kk' e' kk e).symm)
              have HD32 := Lib.hid (show ∀ kk, (.slice (some ⟨W2.heap.size, 0, none⟩) 0 0 : Value).ownBlock = some kk → ∀ kk', (.slice (some ⟨W1.heap.size, 0, none⟩) 0 0 : Value).ownBlock = some kk' → kk ≠ kk' from fun kk e kk' e' => by have := HO2.out.lt kk' e'; have e2 : W2.heap.size = kk := Option.some.inj e; omega)
              have HD23 := Lib.hid (fun kk e kk' e' => (HD32.out kk' e' kk e).symm)
              have HO1 := Lib.hid (show OwnSp 44 W3 w3.heap.size (.slice (some ⟨W0.heap.size, 0, none⟩) 0 0) L 0 from HO1.out.touch (S := fun _ => False) (by rw [hW_]; exact Touch.alloc (Touch.refl _ W2) _) (fun _ _ h => h))
              have HO2 := Lib.hid (show OwnInts W3 w3.heap.size (.slice (some ⟨W1.heap.size, 0, none⟩) 0 0) [] from HO2.out.touch (S := fun _ => False) (by rw [hW_]; exact Touch.alloc (Touch.refl _ W2) _) (fun _ _ h => h))
              have HO3 := Lib.hid (show OwnInts W3 w3.heap.size (.slice (some ⟨W2.heap.size, 0, none⟩) 0 0) [] from by rw [hW_]; exact own_empty W2 w3.heap.size W2.heap.size rfl k_W2.size)
              clear hW_
              refine wpAnyH_ready (rs := [3]) (by kernel_rfl) (by simp) ?_
              refine (AllReadyH.cons rfl (fun K hK => ?_) AllReadyH.nil)
              rw [if_pos (show Region.wanted _ _ = true from rfl)]
              refine wp_app_rd (some 51) rfl (.tmp 48) (.tmp 50) rfl Try.underlying34 info_sp rfl (by decide) w3.heap.size (.slice (some ⟨W0.heap.size, 0, none⟩) 0 0) 0 [] rfl HO1.out ⟨gs, 0, none⟩ 3 scp rfl (spF L) (HRw.out.keep k_W3) (fun j _ => spF_one L j) (by omega) (by decide) k_W3.size ?_
              intro v1 W4 hown hgr hbl
              have k_W4 : Keeps w3 W4 := Keeps.grown k_W3 hgr (fun kk e => (HO1.out.lt kk e).1)
              have HE12 := Lib.hid (show ∀ kk, v1.ownBlock = some kk → ∀ kk', (.slice (some ⟨W1.heap.size, 0, none⟩) 0 0 : Value).ownBlock = some kk' → kk ≠ kk' from fun kk e kk' e' => by { rcases hbl with h | h; { exact HD12.out kk (h ▸ e) kk' e' }; { rw [h] at e; have := HO2.out.lt kk' e'; have e2 : W3.heap.size = kk := Option.some.inj e; omega } })
              have HE13 := Lib.hid (show ∀ kk, v1.ownBlock = some kk → ∀ kk', (.slice (some ⟨W2.heap.size, 0, none⟩) 0 0 : Value).ownBlock = some kk' → kk ≠ kk' from fun kk e kk' e' => by { rcases hbl with h | h; { exact HD13.out kk (h ▸ e) kk' e' }; { rw [h] at e; have := HO3.out.lt kk' e'; have e2 : W3.heap.size = kk := Option.some.inj e; omega } })
              have HO2 := Lib.hid (show OwnInts W4 w3.heap.size (.slice (some ⟨W1.heap.size, 0, none⟩) 0 0) [] from HO2.out.touch (Touch.grown (S := fun kk => (.slice (some ⟨W0.heap.size, 0, none⟩) 0 0 : Value).ownBlock = some kk) (Touch.refl _ W3) hgr (fun kk e _ => e)) (fun kk e h => HD12.out kk h kk e rfl))
              have HO3 := Lib.hid (show OwnInts W4 w3.heap.size (.slice (some ⟨W2.heap.size, 0, none⟩) 0 0) [] from HO3.out.touch (Touch.grown (S := fun kk => (.slice (some ⟨W0.heap.size, 0, none⟩) 0 0 : Value).ownBlock = some kk) (Touch.refl _ W3) hgr (fun kk e _ => e)) (fun kk e h => HD13.out kk h kk e rfl))
              have HD12 := HE12
              have HD21 := Lib.hid (fun kk e kk' e' => (HE12.out kk' e' kk e).symm)
              have HD13 := HE13
              have HD31 := Lib.hid (fun kk e kk' e' => (HE13.out kk' e' kk e).symm)
              have HO1 := Lib.hid (show OwnSp 44 W4 w3.heap.size (v1) L 3 from by have h9 := hown; rw [List.nil_append, spcs3] at h9; exact h9)
              clear hown hgr hbl HE12 HE13
              refine hK.out _ _ k_W4 (fun hHeld => ?_)
              clear hK K
              simp only [Act.put, List.setIfInBounds_toArray, List.set_cons_zero, List.set_cons_succ]
              refine wpAnyH_ready (rs := [7]) (by kernel_rfl) (by simp) ?_
              refine (AllReadyH.cons rfl (fun K hK => ?_) AllReadyH.nil)
              rw [if_pos (show Region.wanted _ _ = true from rfl)]
              refine wp_app_own (some 55) rfl (.tmp 52) (.tmp 54) rfl w3.heap.size (.slice (some ⟨W1.heap.size, 0, none⟩) 0 0) [] HO2.out rfl _ (.slice sa stay.length sc) stay (HS2.out.keep k_W4) rfl (by simp; omega) k_W4.size ?_
              intro v2 W5 hown hgr hbl
              have k_W5 : Keeps w3 W5 := Keeps.grown k_W4 hgr (fun kk e => (HO2.out.lt kk e).1)
              have HE21 := Lib.hid (show ∀ kk, v2.ownBlock = some kk → ∀ kk', (v1 : Value).ownBlock = some kk' → kk ≠ kk' from fun kk e kk' e' => by { rcases hbl with h | h; { exact HD21.out kk (h ▸ e) kk' e' }; { rw [h] at e; have := HO1.out.lt kk' e'; have e2 : W4.heap.size = kk := Option.some.inj e; omega } })
              have HE23 := Lib.hid (show ∀ kk, v2.ownBlock = some kk → ∀ kk', (.slice (some ⟨W2.heap.size, 0, none⟩) 0 0 : Value).ownBlock = some kk' → kk ≠ kk' from fun kk e kk' e' => by { rcases hbl with h | h; { exact HD23.out kk (h ▸ e) kk' e' }; { rw [h] at e; have := HO3.out.lt kk' e'; have e2 : W4.heap.size = kk := Option.some.inj e; omega } })
              have HO1 := Lib.hid (show OwnSp 44 W5 w3.heap.size (v1) L 3 from HO1.out.touch (Touch.grown (S := fun kk => (.slice (some ⟨W1.heap.size, 0, none⟩) 0 0 : Value).ownBlock = some kk) (Touch.refl _ W4) hgr (fun kk e _ => e)) (fun kk e h => HD21.out kk h kk e rfl))
              have HO3 := Lib.hid (show OwnInts W5 w3.heap.size (.slice (some ⟨W2.heap.size, 0, none⟩) 0 0) [] from HO3.out.touch (Touch.grown (S := fun kk => (.slice (some ⟨W1.heap.size, 0, none⟩) 0 0 : Value).ownBlock = some kk) (Touch.refl _ W4) hgr (fun kk e _ => e)) (fun kk e h => HD23.out kk h kk e rfl))
              have HD21 := HE21
              have HD12 := Lib.hid (fun kk e kk' e' => (HE21.out kk' e' kk e).symm)
              have HD23 := HE23
              have HD32 := Lib.hid (fun kk e kk' e' => (HE23.out kk' e' kk e).symm)
              have HO2 := Lib.hid (show OwnInts W5 w3.heap.size (v2) stay from hown)
              clear hown hgr hbl HE21 HE23
              refine hK.out _ _ k_W5 (fun hHeld => ?_)
              clear hK K
              simp only [Act.put, List.setIfInBounds_toArray, List.set_cons_zero, List.set_cons_succ]
              refine wpAnyH_ready (rs := [11]) (by kernel_rfl) (by simp) ?_
              refine (AllReadyH.cons rfl (fun K hK => ?_) AllReadyH.nil)
              rw [if_pos (show Region.wanted _ _ = true from rfl)]
              refine wp_app_own (some 59) rfl (.tmp 56) (.tmp 58) rfl w3.heap.size (.slice (some ⟨W2.heap.size, 0, none⟩) 0 0) [] HO3.out rfl _ (.slice ra roots.length rc') roots (HS3.out.keep k_W5) rfl (by simp; omega) k_W5.size ?_
              intro v3 W6 hown hgr hbl
              have k_W6 : Keeps w3 W6 := Keeps.grown k_W5 hgr (fun kk e => (HO3.out.lt kk e).1)
              have HE31 := Lib.hid (show ∀ kk, v3.ownBlock = some kk → ∀ kk', (v1 : Value).ownBlock = some kk' → kk ≠ kk' from fun kk e kk' e' => by { rcases hbl with h | h; { exact HD31.out kk (h ▸ e) kk' e' }; { rw [h] at e; have := HO1.out.lt kk' e'; have e2 : W5.heap.size = kk := Option.some.inj e; omega } })
              have HE32 := Lib.hid (show ∀ kk, v3.ownBlock = some kk → ∀ kk', (v2 : Value).ownBlock = some kk' → kk ≠ kk' from fun kk e kk' e' => by { rcases hbl with h | h; { exact HD32.out kk (h ▸ e) kk' e' }; { rw [h] at e; have := HO2.out.lt kk' e'; have e2 : W5.heap.size = kk := Option.some.inj e; omega } })
              have HO1 := Lib.hid (show OwnSp 44 W6 w3.heap.size (v1) L 3 from HO1.out.touch (Touch.grown (S := fun kk => (.slice (some ⟨W2.heap.size, 0, none⟩) 0 0 : Value).ownBlock = some kk) (Touch.refl _ W5) hgr (fun kk e _ => e)) (fun kk e h => HD31.out kk h kk e rfl))
              have HO2 := Lib.hid (show OwnInts W6 w3.heap.size (v2) stay from HO2.out.touch (Touch.grown (S := fun kk => (.slice (some ⟨W2.heap.size, 0, none⟩) 0 0 : Value).ownBlock = some kk) (Touch.refl _ W5) hgr (fun kk e _ => e)) (fun kk e h => HD32.out kk h kk e rfl))
              have HD31 := HE31
              have HD13 := Lib.hid (fun kk e kk' e' => (HE31.out kk' e' kk e).symm)
              have HD32 := HE32
              have HD23 := Lib.hid (fun kk e kk' e' => (HE32.out kk' e' kk e).symm)
              have HO3 := Lib.hid (show OwnInts W6 w3.heap.size (v3) roots from hown)
              clear hown hgr hbl HE31 HE32
              refine hK.out _ _ k_W6 (fun hHeld => ?_)
              clear hK K
              simp only [Act.put, List.setIfInBounds_toArray, List.set_cons_zero, List.set_cons_succ]
              refine' wpAnyH_take (i := 12) ?hi12_10 ?hs12_10 ?hf12_10 ?hr12_10 ?hQ12_10 ?hy12_10 (by assumption) ?rest12_10
              case hi12_10 => simp only [List.getElem?_toArray, List.getElem?_cons_succ, List.getElem?_cons_zero] <;> rfl
              case hs12_10 => kernel_rfl
              case hf12_10 => kernel_rfl
              case hr12_10 => kernel_rfl
              case hQ12_10 => exact fun _ _ _ h => h
              case hy12_10 => exact Or.inl ⟨by rfl, fun w hSw => by go_simp <;> (try with_reducible rfl)⟩
              simp only [Act.put, List.setIfInBounds_toArray, List.set_cons_zero, List.set_cons_succ]
              refine' wpAnyH_take (i := 13) ?hi13_10 ?hs13_10 ?hf13_10 ?hr13_10 ?hQ13_10 ?hy13_10 (by assumption) ?rest13_10
              case hi13_10 => simp only [List.getElem?_toArray, List.getElem?_cons_succ, List.getElem?_cons_zero] <;> rfl
              case hs13_10 => kernel_rfl
              case hf13_10 => kernel_rfl
              case hr13_10 => kernel_rfl
              case hQ13_10 => exact fun _ _ _ h => h
              case hy13_10 => exact Or.inl ⟨by rfl, fun w hSw => by go_simp <;> (try with_reducible rfl)⟩
              simp only [Act.put, List.setIfInBounds_toArray, List.set_cons_zero, List.set_cons_succ]
              refine' wpAnyH_take (i := 14) ?hi14_10 ?hs14_10 ?hf14_10 ?hr14_10 ?hQ14_10 ?hy14_10 (by assumption) ?rest14_10
              case hi14_10 => simp only [List.getElem?_toArray, List.getElem?_cons_succ, List.getElem?_cons_zero] <;> rfl
              case hs14_10 => kernel_rfl
              case hf14_10 => kernel_rfl
              case hr14_10 => kernel_rfl
              case hQ14_10 => exact fun _ _ _ h => h
              case hy14_10 => exact Or.inl ⟨by rfl, fun w hSw => by go_simp <;> (try with_reducible rfl)⟩
              simp only [Act.put, List.setIfInBounds_toArray, List.set_cons_zero, List.set_cons_succ]
              refine' wpAnyH_take (i := 15) ?hi15_10 ?hs15_10 ?hf15_10 ?hr15_10 ?hQ15_10 ?hy15_10 (by assumption) ?rest15_10
              case hi15_10 => simp only [List.getElem?_toArray, List.getElem?_cons_succ, List.getElem?_cons_zero] <;> rfl
              case hs15_10 => kernel_rfl
              case hf15_10 => kernel_rfl
              case hr15_10 => kernel_rfl
              case hQ15_10 => exact fun _ _ _ h => h
              case hy15_10 => exact Or.inl ⟨by rfl, fun w hSw => by go_simp <;> (try with_reducible rfl)⟩
              simp only [Act.put, List.setIfInBounds_toArray, List.set_cons_zero, List.set_cons_succ]
              refine wpAnyH_done (by kernel_rfl) ?_ _
              refine NoPanic.normal ?_
              go_wp2_with fail
              go_meet
              exact ⟨v1, v2, v3, rfl, rfl, rfl, rfl, HO1.out, HO2.out, HO3.out, HD12.out, HD13.out, HD23.out, k_W6⟩
          · go_simp
            refine hK.out _ _ (Touch.alloc k_W1 _) (fun hHeld => named_any (fun W2 hW_ => ?_))
            clear hK K
            have k_W2 : Keeps w3 W2 := by rw [hW_]; exact Touch.alloc k_W1 _
            have HD31 := Lib.hid (show ∀ kk, (.slice (some ⟨W1.heap.size, 0, none⟩) 0 0 : Value).ownBlock = some kk → ∀ kk', (.slice (some ⟨W0.heap.size, 0, none⟩) 0 0 : Value).ownBlock = some kk' → kk ≠ kk' from fun kk e kk' e' => by have := HO1.out.lt kk' e'; have e2 : W1.heap.size = kk := Option.some.inj e; omega)
            have HD13 := Lib.hid (fun kk e kk' e' => (HD31.out kk' e' kk e).symm)
            have HO1 := Lib.hid (show OwnSp 44 W2 w3.heap.size (.slice (some ⟨W0.heap.size, 0, none⟩) 0 0) L 0 from HO1.out.touch (S := fun _ => False) (by rw [hW_]; exact Touch.alloc (Touch.refl _ W1) _) (fun _ _ h => h))
            have HO3 := Lib.hid (show OwnInts W2 w3.heap.size (.slice (some ⟨W1.heap.size, 0, none⟩) 0 0) [] from by rw [hW_]; exact own_empty W1 w3.heap.size W1.heap.size rfl k_W1.size)
            clear hW_
            refine wpAnyH_ready (rs := [3, 4]) (by kernel_rfl) (by simp) ?_
            refine (AllReadyH.cons rfl (fun K hK => ?_) (AllReadyH.cons rfl (fun K hK => ?_) AllReadyH.nil))
            · rw [if_pos (show Region.wanted _ _ = true from rfl)]
              refine wp_app_rd (some 51) rfl (.tmp 48) (.tmp 50) rfl Try.underlying34 info_sp rfl (by decide) w3.heap.size (.slice (some ⟨W0.heap.size, 0, none⟩) 0 0) 0 [] rfl HO1.out ⟨gs, 0, none⟩ 3 scp rfl (spF L) (HRw.out.keep k_W2) (fun j _ => spF_one L j) (by omega) (by decide) k_W2.size ?_
              intro v1 W3 hown hgr hbl
              have k_W3 : Keeps w3 W3 := Keeps.grown k_W2 hgr (fun kk e => (HO1.out.lt kk e).1)
              have HE13 := Lib.hid (show ∀ kk, v1.ownBlock = some kk → ∀ kk', (.slice (some ⟨W1.heap.size, 0, none⟩) 0 0 : Value).ownBlock = some kk' → kk ≠ kk' from fun kk e kk' e' => by { rcases hbl with h | h; { exact HD13.out kk (h ▸ e) kk' e' }; { rw [h] at e; have := HO3.out.lt kk' e'; have e2 : W2.heap.size = kk := Option.some.inj e; omega } })
              have HO3 := Lib.hid (show OwnInts W3 w3.heap.size (.slice (some ⟨W1.heap.size, 0, none⟩) 0 0) [] from HO3.out.touch (Touch.grown (S := fun kk => (.slice (some ⟨W0.heap.size, 0, none⟩) 0 0 : Value).ownBlock = some kk) (Touch.refl _ W2) hgr (fun kk e _ => e)) (fun kk e h => HD13.out kk h kk e rfl))
              have HD13 := HE13
              have HD31 := Lib.hid (fun kk e kk' e' => (HE13.out kk' e' kk e).symm)
              have HO1 := Lib.hid (show OwnSp 44 W3 w3.heap.size (v1) L 3 from by have h9 := hown; rw [List.nil_append, spcs3] at h9; exact h9)
              clear hown hgr hbl HE13
              refine hK.out _ _ k_W3 (fun hHeld => ?_)
              clear hK K
              simp only [Act.put, List.setIfInBounds_toArray, List.set_cons_zero, List.set_cons_succ]
              refine wpAnyH_ready (rs := [4]) (by kernel_rfl) (by simp) ?_
              refine (AllReadyH.cons rfl (fun K hK => ?_) AllReadyH.nil)
              go_simp
              refine hK.out _ _ (Touch.alloc k_W3 _) (fun hHeld => named_any (fun W4 hW_ => ?_))
              clear hK K
              have k_W4 : Keeps w3 W4 := by rw [hW_]; exact Touch.alloc k_W3 _
              have HD21 := Lib.hid (show ∀ kk, (.slice (some ⟨W3.heap.size, 0, none⟩) 0 0 : Value).ownBlock = some kk → ∀ kk', (v1 : Value).ownBlock = some kk' → kk ≠ kk' from fun kk e kk' e' => by have := HO1.out.lt kk' e'; have e2 : W3.heap.size = kk := Option.some.inj e; omega)
              have HD12 := Lib.hid (fun kk e kk' e' => (HD21.out kk' e' kk e).symm)
              have HD23 := Lib.hid (show ∀ kk, (.slice (some ⟨W3.heap.size, 0, none⟩) 0 0 : Value).ownBlock = some kk → ∀ kk', (.slice (some ⟨W1.heap.size, 0, none⟩) 0 0 : Value).ownBlock = some kk' → kk ≠ kk' from fun kk e kk' e' => by have := HO3.out.lt kk' e'; have e2 : W3.heap.size = kk := Option.some.inj e; omega)
              have HD32 := Lib.hid (fun kk e kk' e' => (HD23.out kk' e' kk e).symm)
              have HO1 := Lib.hid (show OwnSp 44 W4 w3.heap.size (v1) L 3 from HO1.out.touch (S := fun _ => False) (by rw [hW_]; exact Touch.alloc (Touch.refl _ W3) _) (fun _ _ h => h))
              have HO3 := Lib.hid (show OwnInts W4 w3.heap.size (.slice (some ⟨W1.heap.size, 0, none⟩) 0 0) [] from HO3.out.touch (S := fun _ => False) (by rw [hW_]; exact Touch.alloc (Touch.refl _ W3) _) (fun _ _ h => h))
              have HO2 := Lib.hid (show OwnInts W4 w3.heap.size (.slice (some ⟨W3.heap.size, 0, none⟩) 0 0) [] from by rw [hW_]; exact own_empty W3 w3.heap.size W3.heap.size rfl k_W3.size)
              clear hW_
              refine wpAnyH_ready (rs := [7]) (by kernel_rfl) (by simp) ?_
              refine (AllReadyH.cons rfl (fun K hK => ?_) AllReadyH.nil)
              rw [if_pos (show Region.wanted _ _ = true from rfl)]
              refine wp_app_own (some 55) rfl (.tmp 52) (.tmp 54) rfl w3.heap.size (.slice (some ⟨W3.heap.size, 0, none⟩) 0 0) [] HO2.out rfl _ (.slice sa stay.length sc) stay (HS2.out.keep k_W4) rfl (by simp; omega) k_W4.size ?_
              intro v2 W5 hown hgr hbl
              have k_W5 : Keeps w3 W5 := Keeps.grown k_W4 hgr (fun kk e => (HO2.out.lt kk e).1)
              have HE21 := Lib.hid (show ∀ kk, v2.ownBlock = some kk → ∀ kk', (v1 : Value).ownBlock = some kk' → kk ≠ kk' from fun kk e kk' e' => by { rcases hbl with h | h; { exact HD21.out kk (h ▸ e) kk' e' }; { rw [h] at e; have := HO1.out.lt kk' e'; have e2 : W4.heap.size = kk := Option.some.inj e; omega } })
              have HE23 := Lib.hid (show ∀ kk, v2.ownBlock = some kk → ∀ kk', (.slice (some ⟨W1.heap.size, 0, none⟩) 0 0 : Value).ownBlock = some kk' → kk ≠ kk' from fun kk e kk' e' => by { rcases hbl with h | h; { exact HD23.out kk (h ▸ e) kk' e' }; { rw [h] at e; have := HO3.out.lt kk' e'; have e2 : W4.heap.size = kk := Option.some.inj e; omega } })
              have HO1 := Lib.hid (show OwnSp 44 W5 w3.heap.size (v1) L 3 from HO1.out.touch (Touch.grown (S := fun kk => (.slice (some ⟨W3.heap.size, 0, none⟩) 0 0 : Value).ownBlock = some kk) (Touch.refl _ W4) hgr (fun kk e _ => e)) (fun kk e h => HD21.out kk h kk e rfl))
              have HO3 := Lib.hid (show OwnInts W5 w3.heap.size (.slice (some ⟨W1.heap.size, 0, none⟩) 0 0) [] from HO3.out.touch (Touch.grown (S := fun kk => (.slice (some ⟨W3.heap.size, 0, none⟩) 0 0 : Value).ownBlock = some kk) (Touch.refl _ W4) hgr (fun kk e _ => e)) (fun kk e h => HD23.out kk h kk e rfl))
              have HD21 := HE21
              have HD12 := Lib.hid (fun kk e kk' e' => (HE21.out kk' e' kk e).symm)
              have HD23 := HE23
              have HD32 := Lib.hid (fun kk e kk' e' => (HE23.out kk' e' kk e).symm)
              have HO2 := Lib.hid (show OwnInts W5 w3.heap.size (v2) stay from hown)
              clear hown hgr hbl HE21 HE23
              refine hK.out _ _ k_W5 (fun hHeld => ?_)
              clear hK K
              simp only [Act.put, List.setIfInBounds_toArray, List.set_cons_zero, List.set_cons_succ]
              refine wpAnyH_ready (rs := [11]) (by kernel_rfl) (by simp) ?_
              refine (AllReadyH.cons rfl (fun K hK => ?_) AllReadyH.nil)
              rw [if_pos (show Region.wanted _ _ = true from rfl)]
              refine wp_app_own (some 59) rfl (.tmp 56) (.tmp 58) rfl w3.heap.size (.slice (some ⟨W1.heap.size, 0, none⟩) 0 0) [] HO3.out rfl _ (.slice ra roots.length rc') roots (HS3.out.keep k_W5) rfl (by simp; omega) k_W5.size ?_
              intro v3 W6 hown hgr hbl
              have k_W6 : Keeps w3 W6 := Keeps.grown k_W5 hgr (fun kk e => (HO3.out.lt kk e).1)
              have HE31 := Lib.hid (show ∀ kk, v3.ownBlock = some kk → ∀ kk', (v1 : Value).ownBlock = some kk' → kk ≠ kk' from fun kk e kk' e' => by { rcases hbl with h | h; { exact HD31.out kk (h ▸ e) kk' e' }; { rw [h] at e; have := HO1.out.lt kk' e'; have e2 : W5.heap.size = kk := Option.some.inj e; omega } })
              have HE32 := Lib.hid (show ∀ kk, v3.ownBlock = some kk → ∀ kk', (v2 : Value).ownBlock = some kk' → kk ≠ kk' from fun kk e kk' e' => by { rcases hbl with h | h; { exact HD32.out kk (h ▸ e) kk' e' }; { rw [h] at e; have := HO2.out.lt kk' e'; have e2 : W5.heap.size = kk := Option.some.inj e; omega } })
              have HO1 := Lib.hid (show OwnSp 44 W6 w3.heap.size (v1) L 3 from HO1.out.touch (Touch.grown (S := fun kk => (.slice (some ⟨W1.heap.size, 0, none⟩) 0 0 : Value).ownBlock = some kk) (Touch.refl _ W5) hgr (fun kk e _ => e)) (fun kk e h => HD31.out kk h kk e rfl))
              have HO2 := Lib.hid (show OwnInts W6 w3.heap.size (v2) stay from HO2.out.touch (Touch.grown (S := fun kk => (.slice (some ⟨W1.heap.size, 0, none⟩) 0 0 : Value).ownBlock = some kk) (Touch.refl _ W5) hgr (fun kk e _ => e)) (fun kk e h => HD32.out kk h kk e rfl))
              have HD31 := HE31
              have HD13 := Lib.hid (fun kk e kk' e' => (HE31.out kk' e' kk e).symm)
              have HD32 := HE32
              have HD23 := Lib.hid (fun kk e kk' e' => (HE32.out kk' e' kk e).symm)
              have HO3 := Lib.hid (show OwnInts W6 w3.heap.size (v3) roots from hown)
              clear hown hgr hbl HE31 HE32
              refine hK.out _ _ k_W6 (fun hHeld => ?_)
              clear hK K
              simp only [Act.put, List.setIfInBounds_toArray, List.set_cons_zero, List.set_cons_succ]
              refine' wpAnyH_take (i := 12) ?hi12_11 ?hs12_11 ?hf12_11 ?hr12_11 ?hQ12_11 ?hy12_11 (by assumption) ?rest12_11
              case hi12_11 => simp only [List.getElem?_toArray, List.getElem?_cons_succ, List.getElem?_cons_zero] <;> rfl
              case hs12_11 => kernel_rfl
              case hf12_11 => kernel_rfl
              case hr12_11 => kernel_rfl
              case hQ12_11 => exact fun _ _ _ h => h
              case hy12_11 => exact Or.inl ⟨by rfl, fun w hSw => by go_simp <;> (try with_reducible rfl)⟩
              simp only [Act.put, List.setIfInBounds_toArray, List.set_cons_zero, List.set_cons_succ]
              refine' wpAnyH_take (i := 13) ?hi13_11 ?hs13_11 ?hf13_11 ?hr13_11 ?hQ13_11 ?hy13_11 (by assumption) ?rest13_11
              case hi13_11 => simp only [List.getElem?_toArray, List.getElem?_cons_succ, List.getElem?_cons_zero] <;> rfl
              case hs13_11 => kernel_rfl
              case hf13_11 => kernel_rfl
              case hr13_11 => kernel_rfl
              case hQ13_11 => exact fun _ _ _ h => h
              case hy13_11 => exact Or.inl ⟨by rfl, fun w hSw => by go_simp <;> (try with_reducible rfl)⟩
              simp only [Act.put, List.setIfInBounds_toArray, List.set_cons_zero, List.set_cons_succ]
              refine' wpAnyH_take (i := 14) ?hi14_11 ?hs14_11 ?hf14_11 ?hr14_11 ?hQ14_11 ?hy14_11 (by assumption) ?rest14_11
              case hi14_11 => simp only [List.getElem?_toArray, List.getElem?_cons_succ, List.getElem?_cons_zero] <;> rfl
              case hs14_11 => kernel_rfl
              case hf14_11 => kernel_rfl
              case hr14_11 => kernel_rfl
              case hQ14_11 => exact fun _ _ _ h => h
              case hy14_11 => exact Or.inl ⟨by rfl, fun w hSw => by go_simp <;> (try with_reducible rfl)⟩
              simp only [Act.put, List.setIfInBounds_toArray, List.set_cons_zero, List.set_cons_succ]
              refine' wpAnyH_take (i := 15) ?hi15_11 ?hs15_11 ?hf15_11 ?hr15_11 ?hQ15_11 ?hy15_11 (by assumption) ?rest15_11
              case hi15_11 => simp only [List.getElem?_toArray, List.getElem?_cons_succ, List.getElem?_cons_zero] <;> rfl
              case hs15_11 => kernel_rfl
              case hf15_11 => kernel_rfl
              case hr15_11 => kernel_rfl
              case hQ15_11 => exact fun _ _ _ h => h
              case hy15_11 => exact Or.inl ⟨by rfl, fun w hSw => by go_simp <;> (try with_reducible rfl)⟩
              simp only [Act.put, List.setIfInBounds_toArray, List.set_cons_zero, List.set_cons_succ]
              refine wpAnyH_done (by kernel_rfl) ?_ _
              refine NoPanic.normal ?_
              go_wp2_with fail
              go_meet
              exact ⟨v1, v2, v3, rfl, rfl, rfl, rfl, HO1.out, HO2.out, HO3.out, HD12.out, HD13.out, HD23.out, k_W6⟩
            · go_simp
              refine hK.out _ _ (Touch.alloc k_W2 _) (fun hHeld => named_any (fun W3 hW_ => ?_))
              clear hK K
              have k_W3 : Keeps w3 W3 := by rw [hW_]; exact Touch.alloc k_W2 _
              have HD21 := Lib.hid (show ∀ kk, (.slice (some ⟨W2.heap.size, 0, none⟩) 0 0 : Value).ownBlock = some kk → ∀ kk', (.slice (some ⟨W0.heap.size, 0, none⟩) 0 0 : Value).ownBlock = some kk' → kk ≠ kk' from fun kk e kk' e' => by have := HO1.out.lt kk' e'; have e2 : W2.heap.size = kk := Option.some.inj e; omega)
              have HD12 := Lib.hid (fun kk e kk' e' => (HD21.out kk' e' kk e).symm)
              have HD23 := Lib.hid (show ∀ kk, (.slice (some ⟨W2.heap.size, 0, none⟩) 0 0 : Value).ownBlock = some kk → ∀ kk', (.slice (some ⟨W1.heap.size, 0, none⟩) 0 0 : Value).ownBlock = some kk' → kk ≠ kk' from fun kk e kk' e' => by have := HO3.out.lt kk' e'; have e2 : W2.heap.size = kk := Option.some.inj e; omega)
              have HD32 := Lib.hid (fun kk e kk' e' => (HD23.out kk' e' kk e).symm)
              have HO1 := Lib.hid (show OwnSp 44 W3 w3.heap.size (.slice (some ⟨W0.heap.size, 0, none⟩) 0 0) L 0 from HO1.out.touch (S := fun _ => False) (by rw [hW_]; exact Touch.alloc (Touch.refl _ W2) _) (fun _ _ h => h))
              have HO3 := Lib.hid (show OwnInts W3 w3.heap.size (.slice (some ⟨W1.heap.size, 0, none⟩) 0 0) [] from HO3.out.touch (S := fun _ => False) (by rw [hW_]; exact Touch.alloc (Touch.refl _ W2) _) (fun _ _ h => h))
              have HO2 := Lib.hid (show OwnInts W3 w3.heap.size (.slice (some ⟨W2.heap.size, 0, none⟩) 0 0) [] from by rw [hW_]; exact own_empty W2 w3.heap.size W2.heap.size rfl k_W2.size)
              clear hW_
              refine wpAnyH_ready (rs := [3]) (by kernel_rfl) (by simp) ?_
              refine (AllReadyH.cons rfl (fun K hK => ?_) AllReadyH.nil)
              rw [if_pos (show Region.wanted _ _ = true from rfl)]
              refine wp_app_rd (some 51) rfl (.tmp 48) (.tmp 50) rfl Try.underlying34 info_sp rfl (by decide) w3.heap.size (.slice (some ⟨W0.heap.size, 0, none⟩) 0 0) 0 [] rfl HO1.out ⟨gs, 0, none⟩ 3 scp rfl (spF L) (HRw.out.keep k_W3) (fun j _ => spF_one L j) (by omega) (by decide) k_W3.size ?_
              intro v1 W4 hown hgr hbl
              have k_W4 : Keeps w3 W4 := Keeps.grown k_W3 hgr (fun kk e => (HO1.out.lt kk e).1)
              have HE12 := Lib.hid (show ∀ kk, v1.ownBlock = some kk → ∀ kk', (.slice (some ⟨W2.heap.size, 0, none⟩) 0 0 : Value).ownBlock = some kk' → kk ≠ kk' from fun kk e kk' e' => by { rcases hbl with h | h; { exact HD12.out kk (h ▸ e) kk' e' }; { rw [h] at e; have := HO2.out.lt kk' e'; have e2 : W3.heap.size = kk := Option.some.inj e; omega } })
              have HE13 := Lib.hid (show ∀ kk, v1.ownBlock = some kk → ∀ kk', (.slice (some ⟨W1.heap.size, 0, none⟩) 0 0 : Value).ownBlock = some kk' → kk ≠ kk' from fun kk e kk' e' => by { rcases hbl with h | h; { exact HD13.out kk (h ▸ e) kk' e' }; { rw [h] at e; have := HO3.out.lt kk' e'; have e2 : W3.heap.size = kk := Option.some.inj e; omega } })
              have HO2 := Lib.hid (show OwnInts W4 w3.heap.size (.slice (some ⟨W2.heap.size, 0, none⟩) 0 0) [] from HO2.out.touch (Touch.grown (S := fun kk => (.slice (some ⟨W0.heap.size, 0, none⟩) 0 0 : Value).ownBlock = some kk) (Touch.refl _ W3) hgr (fun kk e _ => e)) (fun kk e h => HD12.out kk h kk e rfl))
              have HO3 := Lib.hid (show OwnInts W4 w3.heap.size (.slice (some ⟨W1.heap.size, 0, none⟩) 0 0) [] from HO3.out.touch (Touch.grown (S := fun kk => (.slice (some ⟨W0.heap.size, 0, none⟩) 0 0 : Value).ownBlock = some kk) (Touch.refl _ W3) hgr (fun kk e _ => e)) (fun kk e h => HD13.out kk h kk e rfl))
              have HD12 := HE12
              have HD21 := Lib.hid (fun kk e kk' e' => (HE12.out kk' e' kk e).symm)
              have HD13 := HE13
              have HD31 := Lib.hid (fun kk e kk' e' => (HE13.out kk' e' kk e).symm)
              have HO1 := Lib.hid (show OwnSp 44 W4 w3.heap.size (v1) L 3 from by have h9 := hown; rw [List.nil_append, spcs3] at h9; exact h9)
              clear hown hgr hbl HE12 HE13
              refine hK.out _ _ k_W4 (fun hHeld => ?_)
              clear hK K
              simp only [Act.put, List.setIfInBounds_toArray, List.set_cons_zero, List.set_cons_succ]
              refine wpAnyH_ready (rs := [7]) (by kernel_rfl) (by simp) ?_
              refine (AllReadyH.cons rfl (fun K hK => ?_) AllReadyH.nil)
              rw [if_pos (show Region.wanted _ _ = true from rfl)]
              refine wp_app_own (some 55) rfl (.tmp 52) (.tmp 54) rfl w3.heap.size (.slice (some ⟨W2.heap.size, 0, none⟩) 0 0) [] HO2.out rfl _ (.slice sa stay.length sc) stay (HS2.out.keep k_W4) rfl (by simp; omega) k_W4.size ?_
              intro v2 W5 hown hgr hbl
              have k_W5 : Keeps w3 W5 := Keeps.grown k_W4 hgr (fun kk e => (HO2.out.lt kk e).1)
              have HE21 := Lib.hid (show ∀ kk, v2.ownBlock = some kk → ∀ kk', (v1 : Value).ownBlock = some kk' → kk ≠ kk' from fun kk e kk' e' => by { rcases hbl with h | h; { exact HD21.out kk (h ▸ e) kk' e' }; { rw [h] at e; have := HO1.out.lt kk' e'; have e2 : W4.heap.size = kk := Option.some.inj e; omega } })
              have HE23 := Lib.hid (show ∀ kk, v2.ownBlock = some kk → ∀ kk', (.slice (some ⟨W1.heap.size, 0, none⟩) 0 0 : Value).ownBlock = some kk' → kk ≠ kk' from fun kk e kk' e' => by { rcases hbl with h | h; { exact HD23.out kk (h ▸ e) kk' e' }; { rw [h] at e; have := HO3.out.lt kk' e'; have e2 : W4.heap.size = kk := Option.some.inj e; omega } })
              have HO1 := Lib.hid (show OwnSp 44 W5 w3.heap.size (v1) L 3 from HO1.out.touch (Touch.grown (S := fun kk => (.slice (some ⟨W2.heap.size, 0, none⟩) 0 0 : Value).ownBlock = some kk) (Touch.refl _ W4) hgr (fun kk e _ => e)) (fun kk e h => HD21.out kk h kk e rfl))
              have HO3 := Lib.hid (show OwnInts W5 w3.heap.size (.slice (some ⟨W1.heap.size, 0, none⟩) 0 0) [] from HO3.out.touch (Touch.grown (S := fun kk => (.slice (some ⟨W2.heap.size, 0, none⟩) 0 0 : Value).ownBlock = some kk) (Touch.refl _ W4) hgr (fun kk e _ => e)) (fun kk e h => HD23.out kk h kk e rfl))
              have HD21 := HE21
              have HD12 := Lib.hid (fun kk e kk' e' => (HE21.out kk' e' kk e).symm)
              have HD23 := HE23
              have HD32 := Lib.hid (fun kk e kk' e' => (HE23.out kk' e' kk e).symm)
              have HO2 := Lib.hid (show OwnInts W5 w3.heap.size (v2) stay from hown)
              clear hown hgr hbl HE21 HE23
              refine hK.out _ _ k_W5 (fun hHeld => ?_)
              clear hK K
              simp only [Act.put, List.setIfInBounds_toArray, List.set_cons_zero, List.set_cons_succ]
              refine wpAnyH_ready (rs := [11]) (by kernel_rfl) (by simp) ?_
              refine (AllReadyH.cons rfl (fun K hK => ?_) AllReadyH.nil)
              rw [if_pos (show Region.wanted _ _ = true from rfl)]
              refine wp_app_own (some 59) rfl (.tmp 56) (.tmp 58) rfl w3.heap.size (.slice (some ⟨W1.heap.size, 0, none⟩) 0 0) [] HO3.out rfl _ (.slice ra roots.length rc') roots (HS3.out.keep k_W5) rfl (by simp; omega) k_W5.size ?_
              intro v3 W6 hown hgr hbl
              have k_W6 : Keeps w3 W6 := Keeps.grown k_W5 hgr (fun kk e => (HO3.out.lt kk e).1)
              have HE31 := Lib.hid (show ∀ kk, v3.ownBlock = some kk → ∀ kk', (v1 : Value).ownBlock = some kk' → kk ≠ kk' from fun kk e kk' e' => by { rcases hbl with h | h; { exact HD31.out kk (h ▸ e) kk' e' }; { rw [h] at e; have := HO1.out.lt kk' e'; have e2 : W5.heap.size = kk := Option.some.inj e; omega } })
              have HE32 := Lib.hid (show ∀ kk, v3.ownBlock = some kk → ∀ kk', (v2 : Value).ownBlock = some kk' → kk ≠ kk' from fun kk e kk' e' => by { rcases hbl with h | h; { exact HD32.out kk (h ▸ e) kk' e' }; { rw [h] at e; have := HO2.out.lt kk' e'; have e2 : W5.heap.size = kk := Option.some.inj e; omega } })
              have HO1 := Lib.hid (show OwnSp 44 W6 w3.heap.size (v1) L 3 from HO1.out.touch (Touch.grown (S := fun kk => (.slice (some ⟨W1.heap.size, 0, none⟩) 0 0 : Value).ownBlock = some kk) (Touch.refl _ W5) hgr (fun kk e _ => e)) (fun kk e h => HD31.out kk h kk e rfl))
              have HO2 := Lib.hid (show OwnInts W6 w3.heap.size (v2) stay from HO2.out.touch (Touch.grown (S := fun kk => (.slice (some ⟨W1.heap.size, 0, none⟩) 0 0 : Value).ownBlock = some kk) (Touch.refl _ W5) hgr (fun kk e _ => e)) (fun kk e h => HD32.out kk h kk e rfl))
              have HD31 := HE31
              have HD13 := Lib.hid (fun kk e kk' e' => (HE31.out kk' e' kk e).symm)
              have HD32 := HE32
              have HD23 := Lib.hid (fun kk e kk' e' => (HE32.out kk' e' kk e).symm)
              have HO3 := Lib.hid (show OwnInts W6 w3.heap.size (v3) roots from hown)
              clear hown hgr hbl HE31 HE32
              refine hK.out _ _ k_W6 (fun hHeld => ?_)
              clear hK K
              simp only [Act.put, List.setIfInBounds_toArray, List.set_cons_zero, List.set_cons_succ]
              refine' wpAnyH_take (i := 12) ?hi12_12 ?hs12_12 ?hf12_12 ?hr12_12 ?hQ12_12 ?hy12_12 (by assumption) ?rest12_12
              case hi12_12 => simp only [List.getElem?_toArray, List.getElem?_cons_succ, List.getElem?_cons_zero] <;> rfl
              case hs12_12 => kernel_rfl
              case hf12_12 => kernel_rfl
              case hr12_12 => kernel_rfl
              case hQ12_12 => exact fun _ _ _ h => h
              case hy12_12 => exact Or.inl ⟨by rfl, fun w hSw => by go_simp <;> (try with_reducible rfl)⟩
              simp only [Act.put, List.setIfInBounds_toArray, List.set_cons_zero, List.set_cons_succ]
              refine' wpAnyH_take (i := 13) ?hi13_12 ?hs13_12 ?hf13_12 ?hr13_12 ?hQ13_12 ?hy13_12 (by assumption) ?rest13_12
              case hi13_12 => simp only [List.getElem?_toArray, List.getElem?_cons_succ, List.getElem?_cons_zero] <;> rfl
              case hs13_12 => kernel_rfl
              case hf13_12 => kernel_rfl
              case hr13_12 => kernel_rfl
              case hQ13_12 => exact fun _ _ _ h => h
              case hy13_12 => exact Or.inl ⟨by rfl, fun w hSw => by go_simp <;> (try with_reducible rfl)⟩
              simp only [Act.put, List.setIfInBounds_toArray, List.set_cons_zero, List.set_cons_succ]
              refine' wpAnyH_take (i := 14) ?hi14_12 ?hs14_12 ?hf14_12 ?hr14_12 ?hQ14_12 ?hy14_12 (by assumption) ?rest14_12
              case hi14_12 => simp only [List.getElem?_toArray, List.getElem?_cons_succ, List.getElem?_cons_zero] <;> rfl
              case hs14_12 => kernel_rfl
              case hf14_12 => kernel_rfl
              case hr14_12 => kernel_rfl
              case hQ14_12 => exact fun _ _ _ h => h
              case hy14_12 => exact Or.inl ⟨by rfl, fun w hSw => by go_simp <;> (try with_reducible rfl)⟩
              simp only [Act.put, List.setIfInBounds_toArray, List.set_cons_zero, List.set_cons_succ]
              refine' wpAnyH_take (i := 15) ?hi15_12 ?hs15_12 ?hf15_12 ?hr15_12 ?hQ15_12 ?hy15_12 (by assumption) ?rest15_12
              case hi15_12 => simp only [List.getElem?_toArray, List.getElem?_cons_succ, List.getElem?_cons_zero] <;> rfl
              case hs15_12 => kernel_rfl
              case hf15_12 => kernel_rfl
              case hr15_12 => kernel_rfl
              case hQ15_12 => exact fun _ _ _ h => h
              case hy15_12 => exact Or.inl ⟨by rfl, fun w hSw => by go_simp <;> (try with_reducible rfl)⟩
              simp only [Act.put, List.setIfInBounds_toArray, List.set_cons_zero, List.set_cons_succ]
              refine wpAnyH_done (by kernel_rfl) ?_ _
              refine NoPanic.normal ?_
              go_wp2_with fail
              go_meet
              exact ⟨v1, v2, v3, rfl, rfl, rfl, rfl, HO1.out, HO2.out, HO3.out, HD12.out, HD13.out, HD23.out, k_W6⟩
        · go_simp
          refine hK.out _ _ (Touch.alloc k_W0 _) (fun hHeld => named_any (fun W1 hW_ => ?_))
          clear hK K
          have k_W1 : Keeps w3 W1 := by rw [hW_]; exact Touch.alloc k_W0 _
          have HO2 := Lib.hid (show OwnInts W1 w3.heap.size (.slice (some ⟨W0.heap.size, 0, none⟩) 0 0) [] from by rw [hW_]; exact own_empty W0 w3.heap.size W0.heap.size rfl k_W0.size)
          clear hW_
          refine wpAnyH_ready (rs := [0, 8]) (by kernel_rfl) (by simp) ?_
          refine (AllReadyH.cons rfl (fun K hK => ?_) (AllReadyH.cons rfl (fun K hK => ?_) AllReadyH.nil))
          · go_simp
            refine hK.out _ _ (Touch.alloc k_W1 _) (fun hHeld => named_any (fun W2 hW_ => ?_))
            clear hK K
            have k_W2 : Keeps w3 W2 := by rw [hW_]; exact Touch.alloc k_W1 _
            have HD12 := Lib.hid (show ∀ kk, (.slice (some ⟨W1.heap.size, 0, none⟩) 0 0 : Value).ownBlock = some kk → ∀ kk', (.slice (some ⟨W0.heap.size, 0, none⟩) 0 0 : Value).ownBlock = some kk' → kk ≠ kk' from fun kk e kk' e' => by have := HO2.out.lt kk' e'; have e2 : W1.heap.size = kk := Option.some.inj e; omega)
            have HD21 := Lib.hid (fun kk e kk' e' => (HD12.out kk' e' kk e).symm)
            have HO2 := Lib.hid (show OwnInts W2 w3.heap.size (.slice (some ⟨W0.heap.size, 0, none⟩) 0 0) [] from HO2.out.touch (S := fun _ => False) (by rw [hW_]; exact Touch.alloc (Touch.refl _ W1) _) (fun _ _ h => h))
            have HO1 := Lib.hid (show OwnSp 44 W2 w3.heap.size (.slice (some ⟨W1.heap.size, 0, none⟩) 0 0) L 0 from by rw [hW_]; exact own_sp0 _ W1 w3.heap.size W1.heap.size L rfl k_W1.size)
            clear hW_
            refine wpAnyH_ready (rs := [3, 8]) (by kernel_rfl) (by simp) ?_
            refine (AllReadyH.cons rfl (fun K hK => ?_) (AllReadyH.cons rfl (fun K hK => ?_) AllReadyH.nil))
            · rw [if_pos (show Region.wanted _ _ = true from rfl)]
              refine wp_app_rd (some 51) rfl (.tmp 48) (.tmp 50) rfl Try.underlying34 info_sp rfl (by decide) w3.heap.size (.slice (some ⟨W1.heap.size, 0, none⟩) 0 0) 0 [] rfl HO1.out ⟨gs, 0, none⟩ 3 scp rfl (spF L) (HRw.out.keep k_W2) (fun j _ => spF_one L j) (by omega) (by decide) k_W2.size ?_
              intro v1 W3 hown hgr hbl
              have k_W3 : Keeps w3 W3 := Keeps.grown k_W2 hgr (fun kk e => (HO1.out.lt kk e).1)
              have HE12 := Lib.hid (show ∀ kk, v1.ownBlock = some kk → ∀ kk', (.slice (some ⟨W0.heap.size, 0, none⟩) 0 0 : Value).ownBlock = some kk' → kk ≠ kk' from fun kk e kk' e' => by { rcases hbl with h | h; { exact HD12.out kk (h ▸ e) kk' e' }; { rw [h] at e; have := HO2.out.lt kk' e'; have e2 : W2.heap.size = kk := Option.some.inj e; omega } })
              have HO2 := Lib.hid (show OwnInts W3 w3.heap.size (.slice (some ⟨W0.heap.size, 0, none⟩) 0 0) [] from HO2.out.touch (Touch.grown (S := fun kk => (.slice (some ⟨W1.heap.size, 0, none⟩) 0 0 : Value).ownBlock = some kk) (Touch.refl _ W2) hgr (fun kk e _ => e)) (fun kk e h => HD12.out kk h kk e rfl))
              have HD12 := HE12
              have HD21 := Lib.hid (fun kk e kk' e' => (HE12.out kk' e' kk e).symm)
              have HO1 := Lib.hid (show OwnSp 44 W3 w3.heap.size (v1) L 3 from by have h9 := hown; rw [List.nil_append, spcs3] at h9; exact h9)
              clear hown hgr hbl HE12
              refine hK.out _ _ k_W3 (fun hHeld => ?_)
              clear hK K
              simp only [Act.put, List.setIfInBounds_toArray, List.set_cons_zero, List.set_cons_succ]
              refine wpAnyH_ready (rs := [7, 8]) (by kernel_rfl) (by simp) ?_
              refine (AllReadyH.cons rfl (fun K hK => ?_) (AllReadyH.cons rfl (fun K hK => ?_) AllReadyH.nil))
              · rw [if_pos (show Region.wanted _ _ = true from rfl)]
                refine wp_app_own (some 55) rfl (.tmp 52) (.tmp 54) rfl w3.heap.size (.slice (some ⟨W0.heap.size, 0, none⟩) 0 0) [] HO2.out rfl _ (.slice sa stay.length sc) stay (HS2.out.keep k_W3) rfl (by simp; omega) k_W3.size ?_
                intro v2 W4 hown hgr hbl
                have k_W4 : Keeps w3 W4 := Keeps.grown k_W3 hgr (fun kk e => (HO2.out.lt kk e).1)
                have HE21 := Lib.hid (show ∀ kk, v2.ownBlock = some kk → ∀ kk', (v1 : Value).ownBlock = some kk' → kk ≠ kk' from fun kk e kk' e' => by { rcases hbl with h | h; { exact HD21.out kk (h ▸ e) kk' e' }; { rw [h] at e; have := HO1.out.lt kk' e'; have e2 : W3.heap.size = kk := Option.some.inj e; omega } })
                have HO1 := Lib.hid (show OwnSp 44 W4 w3.heap.size (v1) L 3 from HO1.out.touch (Touch.grown (S := fun kk => (.slice (some ⟨W0.heap.size, 0, none⟩) 0 0 : Value).ownBlock = some kk) (Touch.refl _ W3) hgr (fun kk e _ => e)) (fun kk e h => HD21.out kk h kk e rfl))
                have HD21 := HE21
                have HD12 := Lib.hid (fun kk e kk' e' => (HE21.out kk' e' kk e).symm)
                have HO2 := Lib.hid (show OwnInts W4 w3.heap.size (v2) stay from hown)
                clear hown hgr hbl HE21
                refine hK.out _ _ k_W4 (fun hHeld => ?_)
                clear hK K
                simp only [Act.put, List.setIfInBounds_toArray, List.set_cons_zero, List.set_cons_succ]
                refine wpAnyH_ready (rs := [8]) (by kernel_rfl) (by simp) ?_
                refine (AllReadyH.cons rfl (fun K hK => ?_) AllReadyH.nil)
                go_simp
                refine hK.out _ _ (Touch.alloc k_W4 _) (fun hHeld => named_any (fun W5 hW_ => ?_))
                clear hK K
                have k_W5 : Keeps w3 W5 := by rw [hW_]; exact Touch.alloc k_W4 _
                have HD31 := Lib.hid (show ∀ kk, (.slice (some ⟨W4.heap.size, 0, none⟩) 0 0 : Value).ownBlock = some kk → ∀ kk', (v1 : Value).ownBlock = some kk' → kk ≠ kk' from fun kk e kk' e' => by have := HO1.out.lt kk' e'; have e2 : W4.heap.size = kk := Option.some.inj e; omega)
                have HD13 := Lib.hid (fun kk e kk' e' => (HD31.out kk' e' kk e).symm)
                have HD32 := Lib.hid (show ∀ kk, (.slice (some ⟨W4.heap.size, 0, none⟩) 0 0 : Value).ownBlock = some kk → ∀ kk', (v2 : Value).ownBlock = some kk' → kk ≠ kk' from fun kk e kk' e' => by have := HO2.out.lt kk' e'; have e2 : W4.heap.size = kk := Option.some.inj e; omega)
                have HD23 := Lib.hid (fun kk e kk' e' => (HD32.out kk' e' kk e).symm)
                have HO1 := Lib.hid (show OwnSp 44 W5 w3.heap.size (v1) L 3 from HO1.out.touch (S := fun _ => False) (by rw [hW_]; exact Touch.alloc (Touch.refl _ W4) _) (fun _ _ h => h))
                have HO2 := Lib.hid (show OwnInts W5 w3.heap.size (v2) stay from HO2.out.touch (S := fun _ => False) (by rw [hW_]; exact Touch.alloc (Touch.refl _ W4) _) (fun _ _ h => h))
                have HO3 := Lib.hid (show OwnInts W5 w3.heap.size (.slice (some ⟨W4.heap.size, 0, none⟩) 0 0) [] from by rw [hW_]; exact own_empty W4 w3.heap.size W4.heap.size rfl k_W4.size)
                clear hW_
                refine wpAnyH_ready (rs := [11]) (by kernel_rfl) (by simp) ?_
                refine (AllReadyH.cons rfl (fun K hK => ?_) AllReadyH.nil)
                rw [if_pos (show Region.wanted _ _ = true from rfl)]
                refine wp_app_own (some 59) rfl (.tmp 56) (.tmp 58) rfl w3.heap.size (.slice (some ⟨W4.heap.size, 0, none⟩) 0 0) [] HO3.out rfl _ (.slice ra roots.length rc') roots (HS3.out.keep k_W5) rfl (by simp; omega) k_W5.size ?_
                intro v3 W6 hown hgr hbl
                have k_W6 : Keeps w3 W6 := Keeps.grown k_W5 hgr (fun kk e => (HO3.out.lt kk e).1)
                have HE31 := Lib.hid (show ∀ kk, v3.ownBlock = some kk → ∀ kk', (v1 : Value).ownBlock = some kk' → kk ≠ kk' from fun kk e kk' e' => by { rcases hbl with h | h; { exact HD31.out kk (h ▸ e) kk' e' }; { rw [h] at e; have := HO1.out.lt kk' e'; have e2 : W5.heap.size = kk := Option.some.inj e; omega } })
                have HE32 := Lib.hid (show ∀ kk, v3.ownBlock = some kk → ∀ kk', (v2 : Value).ownBlock = some kk' → kk ≠ kk' from fun kk e kk' e' => by { rcases hbl with h | h; { exact HD32.out kk (h ▸ e) kk' e' }; { rw [h] at e; have := HO2.out.lt kk' e'; have e2 : W5.heap.size = kk := Option.some.inj e; omega } })
                have HO1 := Lib.hid (show OwnSp 44 W6 w3.heap.size (v1) L 3 from HO1.out.touch (Touch.grown (S := fun kk => (.slice (some ⟨W4.heap.size, 0, none⟩) 0 0 : Value).ownBlock = some kk) (Touch.refl _ W5) hgr (fun kk e _ => e)) (fun kk e h => HD31.out kk h kk e rfl))
                have HO2 := Lib.hid (show OwnInts W6 w3.heap.size (v2) stay from HO2.out.touch (Touch.grown (S := fun kk => (.slice (some ⟨W4.heap.size, 0, none⟩) 0 0 : Value).ownBlock = some kk) (Touch.refl _ W5) hgr (fun kk e _ => e)) (fun kk e h => HD32.out kk h kk e rfl))
                have HD31 := HE31
                have HD13 := Lib.hid (fun kk e kk' e' => (HE31.out kk' e' kk e).symm)
                have HD32 := HE32
                have HD23 := Lib.hid (fun kk e kk' e' => (HE32.out kk' e' kk e).symm)
                have HO3 := Lib.hid (show OwnInts W6 w3.heap.size (v3) roots from hown)
                clear hown hgr hbl HE31 HE32
                refine hK.out _ _ k_W6 (fun hHeld => ?_)
                clear hK K
                simp only [Act.put, List.setIfInBounds_toArray, List.set_cons_zero, List.set_cons_succ]
                refine' wpAnyH_take (i := 12) ?hi12_13 ?hs12_13 ?hf12_13 ?hr12_13 ?hQ12_13 ?hy12_13 (by assumption) ?rest12_13
                case hi12_13 => simp only [List.getElem?_toArray, List.getElem?_cons_succ, List.getElem?_cons_zero] <;> rfl
                case hs12_13 => kernel_rfl
                case hf12_13 => kernel_rfl
                case hr12_13 => kernel_rfl
                case hQ12_13 => exact fun _ _ _ h => h
                case hy12_13 => exact Or.inl ⟨by rfl, fun w hSw => by go_simp <;> (try with_reducible rfl)⟩
                simp only [Act.put, List.setIfInBounds_toArray, List.set_cons_zero, List.set_cons_succ]
                refine' wpAnyH_take (i := 13) ?hi13_13 ?hs13_13 ?hf13_13 ?hr13_13 ?hQ13_13 ?hy13_13 (by assumption) ?rest13_13
                case hi13_13 => simp only [List.getElem?_toArray, List.getElem?_cons_succ, List.getElem?_cons_zero] <;> rfl
                case hs13_13 => kernel_rfl
                case hf13_13 => kernel_rfl
                case hr13_13 => kernel_rfl
                case hQ13_13 => exact fun _ _ _ h => h
                case hy13_13 => exact Or.inl ⟨by rfl, fun w hSw => by go_simp <;> (try with_reducible rfl)⟩
                simp only [Act.put, List.setIfInBounds_toArray, List.set_cons_zero, List.set_cons_succ]
                refine' wpAnyH_take (i := 14) ?hi14_13 ?hs14_13 ?hf14_13 ?hr14_13 ?hQ14_13 ?hy14_13 (by assumption) ?rest14_13
                case hi14_13 => simp only [List.getElem?_toArray, List.getElem?_cons_succ, List.getElem?_cons_zero] <;> rfl
                case hs14_13 => kernel_rfl
                case hf14_13 => kernel_rfl
                case hr14_13 => kernel_rfl
                case hQ14_13 => exact fun _ _ _ h => h
                case hy14_13 => exact Or.inl ⟨by rfl, fun w hSw => by go_simp <;> (try with_reducible rfl)⟩
                simp only [Act.put, List.setIfInBounds_toArray, List.set_cons_zero, List.set_cons_succ]
                refine' wpAnyH_take (i := 15) ?hi15_13 ?hs15_13 ?hf15_13 ?hr15_13 ?hQ15_13 ?hy15_13 (by assumption) ?rest15_13
                case hi15_13 => simp only [List.getElem?_toArray, List.getElem?_cons_succ, List.getElem?_cons_zero] <;> rfl
                case hs15_13 => kernel_rfl
                case hf15_13 => kernel_rfl
                case hr15_13 => kernel_rfl
                case hQ15_13 => exact fun _ _ _ h => h
                case hy15_13 => exact Or.inl ⟨by rfl, fun w hSw => by go_simp <;> (try with_reducible rfl)⟩
                simp only [Act.put, List.setIfInBounds_toArray, List.set_cons_zero, List.set_cons_succ]
                refine wpAnyH_done (by kernel_rfl) ?_ _
                refine NoPanic.normal ?_
                go_wp2_with fail
                go_meet
                exact ⟨v1, v2, v3, rfl, rfl, rfl, rfl, HO1.out, HO2.out, HO3.out, HD12.out, HD13.out, HD23.out, k_W6⟩
              · go_simp
                refine hK.out _ _ (Touch.alloc k_W3 _) (fun hHeld => named_any (fun W4 hW_ => ?_))
                clear hK K
                have k_W4 : Keeps w3 W4 := by rw [hW_]; exact Touch.alloc k_W3 _
                have HD31 := Lib.hid (show ∀ kk, (.slice (some ⟨W3.heap.size, 0, none⟩) 0 0 : Value).ownBlock = some kk → ∀ kk', (v1 : Value).ownBlock = some kk' → kk ≠ kk' from fun kk e kk' e' => by have := HO1.out.lt kk' e'; have e2 : W3.heap.size = kk := Option.some.inj e; omega)
                have HD13 := Lib.hid (fun kk e kk' e' => (HD31.out kk' e' kk e).symm)
                have HD32 := Lib.hid (show ∀ kk, (.slice (some ⟨W3.heap.size, 0, none⟩) 0 0 : Value).ownBlock = some kk → ∀ kk', (.slice (some ⟨W0.heap.size, 0, none⟩) 0 0 : Value).ownBlock = some kk' → kk ≠ kk' from fun kk e kk' e' => by have := HO2.out.lt kk' e'; have e2 : W3.heap.size = kk := Option.some.inj e; omega)
                have HD23 := Lib.hid (fun kk e kk' e' => (HD32.out kk' e' kk e).symm)
                have HO1 := Lib.hid (show OwnSp 44 W4 w3.heap.size (v1) L 3 from HO1.out.touch (S := fun _ => False) (by rw [hW_]; exact Touch.alloc (Touch.refl _ W3) _) (fun _ _ h => h))
                have HO2 := Lib.hid (show OwnInts W4 w3.heap.size (.slice (some ⟨W0.heap.size, 0, none⟩) 0 0) [] from HO2.out.touch (S := fun _ => False) (by rw [hW_]; exact Touch.alloc (Touch.refl _ W3) _) (fun _ _ h => h))
                have HO3 := Lib.hid (show OwnInts W4 w3.heap.size (.slice (some ⟨W3.heap.size, 0, none⟩) 0 0) [] from by rw [hW_]; exact own_empty W3 w3.heap.size W3.heap.size rfl k_W3.size)
                clear hW_
                refine wpAnyH_ready (rs := [7]) (by kernel_rfl) (by simp) ?_
                refine (AllReadyH.cons rfl (fun K hK => ?_) AllReadyH.nil)
                rw [if_pos (show Region.wanted _ _ = true from rfl)]
                refine wp_app_own (some 55) rfl (.tmp 52) (.tmp 54) rfl w3.heap.size (.slice (some ⟨W0.heap.size, 0, none⟩) 0 0) [] HO2.out rfl _ (.slice sa stay.length sc) stay (HS2.out.keep k_W4) rfl (by simp; omega) k_W4.size ?_
                intro v2 W5 hown hgr hbl
                have k_W5 : Keeps w3 W5 := Keeps.grown k_W4 hgr (fun kk e => (HO2.out.lt kk e).1)
                have HE21 := Lib.hid (show ∀ kk, v2.ownBlock = some kk → ∀ kk', (v1 : Value).ownBlock = some kk' → kk ≠ kk' from fun kk e kk' e' => by { rcases hbl with h | h; { exact HD21.out kk (h ▸ e) kk' e' }; { rw [h] at e; have := HO1.out.lt kk' e'; have e2 : W4.heap.size = kk := Option.some.inj e; omega } })
                have HE23 := Lib.hid (show ∀ kk, v2.ownBlock = some kk → ∀ kk', (.slice (some ⟨W3.heap.size, 0, none⟩) 0 0 : Value).ownBlock = some kk' → kk ≠ kk' from fun kk e kk' e' => by { rcases hbl with h | h; { exact HD23.out kk (h ▸ e) kk' e' }; { rw [h] at e; have := HO3.out.lt kk' e'; have e2 : W4.heap.size = kk := Option.some.inj e; omega } })
                have HO1 := Lib.hid (show OwnSp 44 W5 w3.heap.size (v1) L 3 from HO1.out.touch (Touch.grown (S := fun kk => (.slice (some ⟨W0.heap.size, 0, none⟩) 0 0 : Value).ownBlock = some kk) (Touch.refl _ W4) hgr (fun kk e _ => e)) (fun kk e h => HD21.out kk h kk e rfl))
                have HO3 := Lib.hid (show OwnInts W5 w3.heap.size (.slice (some ⟨W3.heap.size, 0, none⟩) 0 0) [] from HO3.out.touch (Touch.grown (S := fun kk => (.slice (some ⟨W0.heap.size, 0, none⟩) 0 0 : Value).ownBlock = some kk) (Touch.refl _ W4) hgr (fun kk e _ => e)) (fun kk e h => HD23.out kk h kk e rfl))
                have HD21 := HE21
                have HD12 := Lib.hid (fun kk e kk' e' => (HE21.out kk' e' kk e).symm)
                have HD23 := HE23
                have HD32 := Lib.hid (fun kk e kk' e' => (HE23.out kk' e' kk e).symm)
                have HO2 := Lib.hid (show OwnInts W5 w3.heap.size (v2) stay from hown)
                clear hown hgr hbl HE21 HE23
                refine hK.out _ _ k_W5 (fun hHeld => ?_)
                clear hK K
                simp only [Act.put, List.setIfInBounds_toArray, List.set_cons_zero, List.set_cons_succ]
                refine wpAnyH_ready (rs := [11]) (by kernel_rfl) (by simp) ?_
                refine (AllReadyH.cons rfl (fun K hK => ?_) AllReadyH.nil)
                rw [if_pos (show Region.wanted _ _ = true from rfl)]
                refine wp_app_own (some 59) rfl (.tmp 56) (.tmp 58) rfl w3.heap.size (.slice (some ⟨W3.heap.size, 0, none⟩) 0 0) [] HO3.out rfl _ (.slice ra roots.length rc') roots (HS3.out.keep k_W5) rfl (by simp; omega) k_W5.size ?_
                intro v3 W6 hown hgr hbl
                have k_W6 : Keeps w3 W6 := Keeps.grown k_W5 hgr (fun kk e => (HO3.out.lt kk e).1)
                have HE31 := Lib.hid (show ∀ kk, v3.ownBlock = some kk → ∀ kk', (v1 : Value).ownBlock = some kk' → kk ≠ kk' from fun kk e kk' e' => by { rcases hbl with h | h; { exact HD31.out kk (h ▸ e) kk' e' }; { rw [h] at e; have := HO1.out.lt kk' e'; have e2 : W5.heap.size = kk := Option.some.inj e; omega } })
                have HE32 := Lib.hid (show ∀ kk, v3.ownBlock = some kk → ∀ kk', (v2 : Value).ownBlock = some kk' → kk ≠ kk' from fun kk e kk' e' => by { rcases hbl with h | h; { exact HD32.out kk (h ▸ e) kk' e' }; { rw [h] at e; have := HO2.out.lt kk' e'; have e2 : W5.heap.size = kk := Option.some.inj e; omega } })
                have HO1 := Lib.hid (show OwnSp 44 W6 w3.heap.size (v1) L 3 from HO1.out.touch (Touch.grown (S := fun kk => (.slice (some ⟨W3.heap.size, 0, none⟩) 0 0 : Value).ownBlock = some kk) (Touch.refl _ W5) hgr (fun kk e _ => e)) (fun kk e h => HD31.out kk h kk e rfl))
                have HO2 := Lib.hid (show OwnInts W6 w3.heap.size (v2) stay from HO2.out.touch (Touch.grown (S := fun kk => (.slice (some ⟨W3.heap.size, 0, none⟩) 0 0 : Value).ownBlock = some kk) (Touch.refl _ W5) hgr (fun kk e _ => e)) (fun kk e h => HD32.out kk h kk e rfl))
                have HD31 := HE31
                have HD13 := Lib.hid (fun kk e kk' e' => (HE31.out kk' e' kk e).symm)
                have HD32 := HE32
                have HD23 := Lib.hid (fun kk e kk' e' => (HE32.out kk' e' kk e).symm)
                have HO3 := Lib.hid (show OwnInts W6 w3.heap.size (v3) roots from hown)
                clear hown hgr hbl HE31 HE32
                refine hK.out _ _ k_W6 (fun hHeld => ?_)
                clear hK K
                simp only [Act.put, List.setIfInBounds_toArray, List.set_cons_zero, List.set_cons_succ]
                refine' wpAnyH_take (i := 12) ?hi12_14 ?hs12_14 ?hf12_14 ?hr12_14 ?hQ12_14 ?hy12_14 (by assumption) ?rest12_14
                case hi12_14 => simp only [List.getElem?_toArray, List.getElem?_cons_succ, List.getElem?_cons_zero] <;> rfl
                case hs12_14 => kernel_rfl
                case hf12_14 => kernel_rfl
                case hr12_14 => kernel_rfl
                case hQ12_14 => exact fun _ _ _ h => h
                case hy12_14 => exact Or.inl ⟨by rfl, fun w hSw => by go_simp <;> (try with_reducible rfl)⟩
                simp only [Act.put, List.setIfInBounds_toArray, List.set_cons_zero, List.set_cons_succ]
                refine' wpAnyH_take (i := 13) ?hi13_14 ?hs13_14 ?hf13_14 ?hr13_14 ?hQ13_14 ?hy13_14 (by assumption) ?rest13_14
                case hi13_14 => simp only [List.getElem?_toArray, List.getElem?_cons_succ, List.getElem?_cons_zero] <;> rfl
                case hs13_14 => kernel_rfl
                case hf13_14 => kernel_rfl
                case hr13_14 => kernel_rfl
                case hQ13_14 => exact fun _ _ _ h => h
                case hy13_14 => exact Or.inl ⟨by rfl, fun w hSw => by go_simp <;> (try with_reducible rfl)⟩
                simp only [Act.put, List.setIfInBounds_toArray, List.set_cons_zero, List.set_cons_succ]
                refine' wpAnyH_take (i := 14) ?hi14_14 ?hs14_14 ?hf14_14 ?hr14_14 ?hQ14_14 ?hy14_14 (by assumption) ?rest14_14
                case hi14_14 => simp only [List.getElem?_toArray, List.getElem?_cons_succ, List.getElem?_cons_zero] <;> rfl
                case hs14_14 => kernel_rfl
                case hf14_14 => kernel_rfl
                case hr14_14 => kernel_rfl
                case hQ14_14 => exact fun _ _ _ h => h
                case hy14_14 => exact Or.inl ⟨by rfl, fun w hSw => by go_simp <;> (try with_reducible rfl)⟩
                simp only [Act.put, List.setIfInBounds_toArray, List.set_cons_zero, List.set_cons_succ]
                refine' wpAnyH_take (i := 15) ?hi15_14 ?hs15_14 ?hf15_14 ?hr15_14 ?hQ15_14 ?hy15_14 (by assumption) ?rest15_14
                case hi15_14 => simp only [List.getElem?_toArray, List.getElem?_cons_succ, List.getElem?_cons_zero] <;> rfl
                case hs15_14 => kernel_rfl
                case hf15_14 => kernel_rfl
                case hr15_14 => kernel_rfl
                case hQ15_14 => exact fun _ _ _ h => h
                case hy15_14 => exact Or.inl ⟨by rfl, fun w hSw => by go_simp <;> (try with_reducible rfl)⟩
                simp only [Act.put, List.setIfInBounds_toArray, List.set_cons_zero, List.set_cons_succ]
                refine wpAnyH_done (by kernel_rfl) ?_ _
                refine NoPanic.normal ?_
                go_wp2_with fail
                go_meet
                exact ⟨v1, v2, v3, rfl, rfl, rfl, rfl, HO1.out, HO2.out, HO3.out, HD12.out, HD13.out, HD23.out, k_W6⟩
            · go_simp
              refine hK.out _ _ (Touch.alloc k_W2 _) (fun hHeld => named_any (fun W3 hW_ => ?_))
              clear hK K
              have k_W3 : Keeps w3 W3 := by rw [hW_]; exact Touch.alloc k_W2 _
              have HD31 := Lib.hid (show ∀ kk, (.slice (some ⟨W2.heap.size, 0, none⟩) 0 0 : Value).ownBlock = some kk → ∀ kk', (.slice (some ⟨W1.heap.size, 0, none⟩) 0 0 : Value).ownBlock = some kk' → kk ≠ kk' from fun kk e kk' e' => by have := HO1.out.lt kk' e'; have e2 : W2.heap.size = kk := Option.some.inj e; omega)
              have HD13 := Lib.hid (fun kk e kk' e' => (HD31.out kk' e' kk e).symm)
              have HD32 := Lib.hid (show ∀ kk, (.slice (some ⟨W2.heap.size, 0, none⟩) 0 0 : Value).ownBlock = some kk → ∀ kk', (.slice (some ⟨W0.heap.size, 0, none⟩) 0 0 : Value).ownBlock = some kk' → kk ≠ kk' from fun kk e kk' e' => by have := HO2.out.lt kk' e'; have e2 : W2.heap.size = kk := Option.some.inj e; omega)
              have HD23 := Lib.hid (fun kk e kk' e' => (HD32.out kk' e' kk e).symm)
              have HO1 := Lib.hid (show OwnSp 44 W3 w3.heap.size (.slice (some ⟨W1.heap.size, 0, none⟩) 0 0) L 0 from HO1.out.touch (S := fun _ => False) (by rw [hW_]; exact Touch.alloc (Touch.refl _ W2) _) (fun _ _ h => h))
              have HO2 := Lib.hid (show OwnInts W3 w3.heap.size (.slice (some ⟨W0.heap.size, 0, none⟩) 0 0) [] from HO2.out.touch (S := fun _ => False) (by rw [hW_]; exact Touch.alloc (Touch.refl _ W2) _) (fun _ _ h => h))
              have HO3 := Lib.hid (show OwnInts W3 w3.heap.size (.slice (some ⟨W2.heap.size, 0, none⟩) 0 0) [] from by rw [hW_]; exact own_empty W2 w3.heap.size W2.heap.size rfl k_W2.size)
              clear hW_
              refine wpAnyH_ready (rs := [3]) (by kernel_rfl) (by simp) ?_
              refine (AllReadyH.cons rfl (fun K hK => ?_) AllReadyH.nil)
              rw [if_pos (show Region.wanted _ _ = true from rfl)]
              refine wp_app_rd (some 51) rfl (.tmp 48) (.tmp 50) rfl Try.underlying34 info_sp rfl (by decide) w3.heap.size (.slice (some ⟨W1.heap.size, 0, none⟩) 0 0) 0 [] rfl HO1.out ⟨gs, 0, none⟩ 3 scp rfl (spF L) (HRw.out.keep k_W3) (fun j _ => spF_one L j) (by omega) (by decide) k_W3.size ?_
              intro v1 W4 hown hgr hbl
              have k_W4 : Keeps w3 W4 := Keeps.grown k_W3 hgr (fun kk e => (HO1.out.lt kk e).1)
              have HE12 := Lib.hid (show ∀ kk, v1.ownBlock = some kk → ∀ kk', (.slice (some ⟨W0.heap.size, 0, none⟩) 0 0 : Value).ownBlock = some kk' → kk ≠ kk' from fun kk e kk' e' => by { rcases hbl with h | h; { exact HD12.out kk (h ▸ e) kk' e' }; { rw [h] at e; have := HO2.out.lt kk' e'; have e2 : W3.heap.size = kk := Option.some.inj e; omega } })
              have HE13 := Lib.hid (show ∀ kk, v1.ownBlock = some kk → ∀ kk', (.slice (some ⟨W2.heap.size, 0, none⟩) 0 0 : Value).ownBlock = some kk' → kk ≠ kk' from fun kk e kk' e' => by { rcases hbl with h | h; { exact HD13.out kk (h ▸ e) kk' e' }; { rw [h] at e; have := HO3.out.lt kk' e'; have e2 : W3.heap.size = kk := Option.some.inj e; omega } })
              have HO2 := Lib.hid (show OwnInts W4 w3.heap.size (.slice (some ⟨W0.heap.size, 0, none⟩) 0 0) [] from HO2.out.touch (Touch.grown (S := fun kk => (.slice (some ⟨W1.heap.size, 0, none⟩) 0 0 : Value).ownBlock = some kk) (Touch.refl _ W3) hgr (fun kk e _ => e)) (fun kk e h => HD12.out kk h kk e rfl))
              have HO3 := Lib.hid (show OwnInts W4 w3.heap.size (.slice (some ⟨W2.heap.size, 0, none⟩) 0 0) [] from HO3.out.touch (Touch.grown (S := fun kk => (.slice (some ⟨W1.heap.size, 0, none⟩) 0 0 : Value).ownBlock = some kk) (Touch.refl _ W3) hgr (fun kk e _ => e)) (fun kk e h => HD13.out kk h kk e rfl))
              have HD12 := HE12
              have HD21 := Lib.hid (fun kk e kk' e' => (HE12.out kk' e' kk e).symm)
              have HD13 := HE13
              have HD31 := Lib.hid (fun kk e kk' e' => (HE13.out kk' e' kk e).symm)
              have HO1 := Lib.hid (show OwnSp 44 W4 w3.heap.size (v1) L 3 from by have h9 := hown; rw [List.nil_append, spcs3] at h9; exact h9)
              clear hown hgr hbl HE12 HE13
              refine hK.out _ _ k_W4 (fun hHeld => ?_)
              clear hK K
              simp only [Act.put, List.setIfInBounds_toArray, List.set_cons_zero, List.set_cons_succ]
              refine wpAnyH_ready (rs := [7]) (by kernel_rfl) (by simp) ?_
              refine (AllReadyH.cons rfl (fun K hK => ?_) AllReadyH.nil)
              rw [if_pos (show Region.wanted _ _ = true from rfl)]
              refine wp_app_own (some 55) rfl (.tmp 52) (.tmp 54) rfl w3.heap.size (.slice (some ⟨W0.heap.size, 0, none⟩) 0 0) [] HO2.out rfl _ (.slice sa stay.length sc) stay (HS2.out.keep k_W4) rfl (by simp; omega) k_W4.size ?_
              intro v2 W5 hown hgr hbl
              have k_W5 : Keeps w3 W5 := Keeps.grown k_W4 hgr (fun kk e => (HO2.out.lt kk e).1)
              have HE21 := Lib.hid (show ∀ kk, v2.ownBlock = some kk → ∀ kk', (v1 : Value).ownBlock = some kk' → kk ≠ kk' from fun kk e kk' e' => by { rcases hbl with h | h; { exact HD21.out kk (h ▸ e) kk' e' }; { rw [h] at e; have := HO1.out.lt kk' e'; have e2 : W4.heap.size = kk := Option.some.inj e; omega } })
              have HE23 := Lib.hid (show ∀ kk, v2.ownBlock = some kk → ∀ kk', (.slice (some ⟨W2.heap.size, 0, none⟩) 0 0 : Value).ownBlock = some kk' → kk ≠ kk' from fun kk e kk' e' => by { rcases hbl with h | h; { exact HD23.out kk (h ▸ e) kk' e' }; { rw [h] at e; have := HO3.out.lt kk' e'; have e2 : W4.heap.size = kk := Option.some.inj e; omega } })
              have HO1 := Lib.hid (show OwnSp 44 W5 w3.heap.size (v1) L 3 from HO1.out.touch (Touch.grown (S := fun kk => (.slice (some ⟨W0.heap.size, 0, none⟩) 0 0 : Value).ownBlock = some kk) (Touch.refl _ W4) hgr (fun kk e _ => e)) (fun kk e h => HD21.out kk h kk e rfl))
              have HO3 := Lib.hid (show OwnInts W5 w3.heap.size (.slice (some ⟨W2.heap.size, 0, none⟩) 0 0) [] from HO3.out.touch (Touch.grown (S := fun kk => (.slice (some ⟨W0.heap.size, 0, none⟩) 0 0 : Value).ownBlock = some kk) (Touch.refl _ W4) hgr (fun kk e _ => e)) (fun kk e h => HD23.out kk h kk e rfl))
              have HD21 := HE21
              have HD12 := Lib.hid (fun kk e kk' e' => (HE21.out kk' e' kk e).symm)
              have HD23 := HE23
              have HD32 := Lib.hid (fun kk e kk' e' => (HE23.out kk' e' kk e).symm)
              have HO2 := Lib.hid (show OwnInts W5 w3.heap.size (v2) stay from hown)
              clear hown hgr hbl HE21 HE23
              refine hK.out _ _ k_W5 (fun hHeld => ?_)
              clear hK K
              simp only [Act.put, List.setIfInBounds_toArray, List.set_cons_zero, List.set_cons_succ]
              refine wpAnyH_ready (rs := [11]) (by kernel_rfl) (by simp) ?_
              refine (AllReadyH.cons rfl (fun K hK => ?_) AllReadyH.nil)
              rw [if_pos (show Region.wanted _ _ = true from rfl)]
              refine wp_app_own (some 59) rfl (.tmp 56) (.tmp 58) rfl w3.heap.size (.slice (some ⟨W2.heap.size, 0, none⟩) 0 0) [] HO3.out rfl _ (.slice ra roots.length rc') roots (HS3.out.keep k_W5) rfl (by simp; omega) k_W5.size ?_
              intro v3 W6 hown hgr hbl
              have k_W6 : Keeps w3 W6 := Keeps.grown k_W5 hgr (fun kk e => (HO3.out.lt kk e).1)
              have HE31 := Lib.hid (show ∀ kk, v3.ownBlock = some kk → ∀ kk', (v1 : Value).ownBlock = some kk' → kk ≠ kk' from fun kk e kk' e' => by { rcases hbl with h | h; { exact HD31.out kk (h ▸ e) kk' e' }; { rw [h] at e; have := HO1.out.lt kk' e'; have e2 : W5.heap.size = kk := Option.some.inj e; omega } })
              have HE32 := Lib.hid (show ∀ kk, v3.ownBlock = some kk → ∀ kk', (v2 : Value).ownBlock = some kk' → kk ≠ kk' from fun kk e kk' e' => by { rcases hbl with h | h; { exact HD32.out kk (h ▸ e) kk' e' }; { rw [h] at e; have := HO2.out.lt kk' e'; have e2 : W5.heap.size = kk := Option.some.inj e; omega } })
              have HO1 := Lib.hid (show OwnSp 44 W6 w3.heap.size (v1) L 3 from HO1.out.touch (Touch.grown (S := fun kk => (.slice (some ⟨W2.heap.size, 0, none⟩) 0 0 : Value).ownBlock = some kk) (Touch.refl _ W5) hgr (fun kk e _ => e)) (fun kk e h => HD31.out kk h kk e rfl))
              have HO2 := Lib.hid (show OwnInts W6 w3.heap.size (v2) stay from HO2.out.touch (Touch.grown (S := fun kk => (.slice (some ⟨W2.heap.size, 0, none⟩) 0 0 : Value).ownBlock = some kk) (Touch.refl _ W5) hgr (fun kk e _ => e)) (fun kk e h => HD32.out kk h kk e rfl))
              have HD31 := HE31
              have HD13 := Lib.hid (fun kk e kk' e' => (HE31.out kk' e' kk e).symm)
              have HD32 := HE32
              have HD23 := Lib.hid (fun kk e kk' e' => (HE32.out kk' e' kk e).symm)
              have HO3 := Lib.hid (show OwnInts W6 w3.heap.size (v3) roots from hown)
              clear hown hgr hbl HE31 HE32
              refine hK.out _ _ k_W6 (fun hHeld => ?_)
              clear hK K
              simp only [Act.put, List.setIfInBounds_toArray, List.set_cons_zero, List.set_cons_succ]
              refine' wpAnyH_take (i := 12) ?hi12_15 ?hs12_15 ?hf12_15 ?hr12_15 ?hQ12_15 ?hy12_15 (by assumption) ?rest12_15
              case hi12_15 => simp only [List.getElem?_toArray, List.getElem?_cons_succ, List.getElem?_cons_zero] <;> rfl
              case hs12_15 => kernel_rfl
              case hf12_15 => kernel_rfl
              case hr12_15 => kernel_rfl
              case hQ12_15 => exact fun _ _ _ h => h
              case hy12_15 => exact Or.inl ⟨by rfl, fun w hSw => by go_simp <;> (try with_reducible rfl)⟩
              simp only [Act.put, List.setIfInBounds_toArray, List.set_cons_zero, List.set_cons_succ]
              refine' wpAnyH_take (i := 13) ?hi13_15 ?hs13_15 ?hf13_15 ?hr13_15 ?hQ13_15 ?hy13_15 (by assumption) ?rest13_15
              case hi13_15 => simp only [List.getElem?_toArray, List.getElem?_cons_succ, List.getElem?_cons_zero] <;> rfl
              case hs13_15 => kernel_rfl
              case hf13_15 => kernel_rfl
              case hr13_15 => kernel_rfl
              case hQ13_15 => exact fun _ _ _ h => h
              case hy13_15 => exact Or.inl ⟨by rfl, fun w hSw => by go_simp <;> (try with_reducible rfl)⟩
              simp only [Act.put, List.setIfInBounds_toArray, List.set_cons_zero, List.set_cons_succ]
              refine' wpAnyH_take (i := 14) ?hi14_15 ?hs14_15 ?hf14_15 ?hr14_15 ?hQ14_15 ?hy14_15 (by assumption) ?rest14_15
              case hi14_15 => simp only [List.getElem?_toArray, List.getElem?_cons_succ, List.getElem?_cons_zero] <;> rfl
              case hs14_15 => kernel_rfl
              case hf14_15 => kernel_rfl
              case hr14_15 => kernel_rfl
              case hQ14_15 => exact fun _ _ _ h => h
              case hy14_15 => exact Or.inl ⟨by rfl, fun w hSw => by go_simp <;> (try with_reducible rfl)⟩
              simp only [Act.put, List.setIfInBounds_toArray, List.set_cons_zero, List.set_cons_succ]
              refine' wpAnyH_take (i := 15) ?hi15_15 ?hs15_15 ?hf15_15 ?hr15_15 ?hQ15_15 ?hy15_15 (by assumption) ?rest15_15
              case hi15_15 => simp only [List.getElem?_toArray, List.getElem?_cons_succ, List.getElem?_cons_zero] <;> rfl
              case hs15_15 => kernel_rfl
              case hf15_15 => kernel_rfl
              case hr15_15 => kernel_rfl
              case hQ15_15 => exact fun _ _ _ h => h
              case hy15_15 => exact Or.inl ⟨by rfl, fun w hSw => by go_simp <;> (try with_reducible rfl)⟩
              simp only [Act.put, List.setIfInBounds_toArray, List.set_cons_zero, List.set_cons_succ]
              refine wpAnyH_done (by kernel_rfl) ?_ _
              refine NoPanic.normal ?_
              go_wp2_with fail
              go_meet
              exact ⟨v1, v2, v3, rfl, rfl, rfl, rfl, HO1.out, HO2.out, HO3.out, HD12.out, HD13.out, HD23.out, k_W6⟩
          · go_simp
            refine hK.out _ _ (Touch.alloc k_W1 _) (fun hHeld => named_any (fun W2 hW_ => ?_))
            clear hK K
            have k_W2 : Keeps w3 W2 := by rw [hW_]; exact Touch.alloc k_W1 _
            have HD32 := Lib.hid (show ∀ kk, (.slice (some ⟨W1.heap.size, 0, none⟩) 0 0 : Value).ownBlock = some kk → ∀ kk', (.slice (some ⟨W0.heap.size, 0, none⟩) 0 0 : Value).ownBlock = some kk' → kk ≠ kk' from fun kk e kk' e' => by have := HO2.out.lt kk' e'; have e2 : W1.heap.size = kk := Option.some.inj e; omega)
            have HD23 := Lib.hid (fun kk e kk' e' => (HD32.out kk' e' kk e).symm)
            have HO2 := Lib.hid (show OwnInts W2 w3.heap.size (.slice (some ⟨W0.heap.size, 0, none⟩) 0 0) [] from HO2.out.touch (S := fun _ => False) (by rw [hW_]; exact Touch.alloc (Touch.refl _ W1) _) (fun _ _ h => h))
            have HO3 := Lib.hid (show OwnInts W2 w3.heap.size (.slice (some ⟨W1.heap.size, 0, none⟩) 0 0) [] from by rw [hW_]; exact own_empty W1 w3.heap.size W1.heap.size rfl k_W1.size)
            clear hW_
            refine wpAnyH_ready (rs := [0]) (by kernel_rfl) (by simp) ?_
            refine (AllReadyH.cons rfl (fun K hK => ?_) AllReadyH.nil)
            go_simp
            refine hK.out _ _ (Touch.alloc k_W2 _) (fun hHeld => named_any (fun W3 hW_ => ?_))
            clear hK K
            have k_W3 : Keeps w3 W3 := by rw [hW_]; exact Touch.alloc k_W2 _
            have HD12 := Lib.hid (show ∀ kk, (.slice (some ⟨W2.heap.size, 0, none⟩) 0 0 : Value).ownBlock = some kk → ∀ kk', (.slice (some ⟨W0.heap.size, 0, none⟩) 0 0 : Value).ownBlock = some kk' → kk ≠ kk' from fun kk e kk' e' => by have := HO2.out.lt kk' e'; have e2 : W2.heap.size = kk := Option.some.inj e; omega)
            have HD21 := Lib.hid (fun kk e kk' e' => (HD12.out kk' e' kk e).symm)
            have HD13 := Lib.hid (show ∀ kk, (.slice (some ⟨W2.heap.size, 0, none⟩) 0 0 : Value).ownBlock = some kk → ∀ kk', (.slice (some ⟨W1.heap.size, 0, none⟩) 0 0 : Value).ownBlock = some kk' → kk ≠ kk' from fun kk e kk' e' => by have := HO3.out.lt kk' e'; have e2 : W2.heap.size = kk := Option.some.inj e; omega)
            have HD31 := Lib.hid (fun kk e kk' e' => (HD13.out kk' e' kk e).symm)
            have HO2 := Lib.hid (show OwnInts W3 w3.heap.size (.slice (some ⟨W0.heap.size, 0, none⟩) 0 0) [] from HO2.out.touch (S := fun _ => False) (by rw [hW_]; exact Touch.alloc (Touch.refl _ W2) _) (fun _ _ h => h))
            have HO3 := Lib.hid (show OwnInts W3 w3.heap.size (.slice (some ⟨W1.heap.size, 0, none⟩) 0 0) [] from HO3.out.touch (S := fun _ => False) (by rw [hW_]; exact Touch.alloc (Touch.refl _ W2) _) (fun _ _ h => h))
            have HO1 := Lib.hid (show OwnSp 44 W3 w3.heap.size (.slice (some ⟨W2.heap.size, 0, none⟩) 0 0) L 0 from by rw [hW_]; exact own_sp0 _ W2 w3.heap.size W2.heap.size L rfl k_W2.size)
            clear hW_
            refine wpAnyH_ready (rs := [3]) (by kernel_rfl) (by simp) ?_
            refine (AllReadyH.cons rfl (fun K hK => ?_) AllReadyH.nil)
            rw [if_pos (show Region.wanted _ _ = true from rfl)]
            refine wp_app_rd (some 51) rfl (.tmp 48) (.tmp 50) rfl Try.underlying34 info_sp rfl (by decide) w3.heap.size (.slice (some ⟨W2.heap.size, 0, none⟩) 0 0) 0 [] rfl HO1.out ⟨gs, 0, none⟩ 3 scp rfl (spF L) (HRw.out.keep k_W3) (fun j _ => spF_one L j) (by omega) (by decide) k_W3.size ?_
            intro v1 W4 hown hgr hbl
            have k_W4 : Keeps w3 W4 := Keeps.grown k_W3 hgr (fun kk e => (HO1.out.lt kk e).1)
            have HE12 := Lib.hid (show ∀ kk, v1.ownBlock = some kk → ∀ kk', (.slice (some ⟨W0.heap.size, 0, none⟩) 0 0 : Value).ownBlock = some kk' → kk ≠ kk' from fun kk e kk' e' => by { rcases hbl with h | h; { exact HD12.out kk (h ▸ e) kk' e' }; { rw [h] at e; have := HO2.out.lt kk' e'; have e2 : W3.heap.size = kk := Option.some.inj e; omega } })
            have HE13 := Lib.hid (show ∀ kk, v1.ownBlock = some kk → ∀ kk', (.slice (some ⟨W1.heap.size, 0, none⟩) 0 0 : Value).ownBlock = some kk' → kk ≠ kk' from fun kk e kk' e' => by { rcases hbl with h | h; { exact HD13.out kk (h ▸ e) kk' e' }; { rw [h] at e; have := HO3.out.lt kk' e'; have e2 : W3.heap.size = kk := Option.some.inj e; omega } })
            have HO2 := Lib.hid (show OwnInts W4 w3.heap.size (.slice (some ⟨W0.heap.size, 0, none⟩) 0 0) [] from HO2.out.touch (Touch.grown (S := fun kk => (.slice (some ⟨W2.heap.size, 0, none⟩) 0 0 : Value).ownBlock = some kk) (Touch.refl _ W3) hgr (fun kk e _ => e)) (fun kk e h => HD12.out kk h kk e rfl))
            have HO3 := Lib.hid (show OwnInts W4 w3.heap.size (.slice (some ⟨W1.heap.size, 0, none⟩) 0 0) [] from HO3.out.touch (Touch.grown (S := fun kk => (.slice (some ⟨W2.heap.size, 0, none⟩) 0 0 : Value).ownBlock = some kk) (Touch.refl _ W3) hgr (fun kk e _ => e)) (fun kk e h => HD13.out kk h kk e rfl))
            have HD12 := HE12
            have HD21 := Lib.hid (fun kk e kk' e' => (HE12.out kk' e' kk e).symm)
            have HD13 := HE13
            have HD31 := Lib.hid (fun kk e kk' e' => (HE13.out kk' e' kk e).symm)
            have HO1 := Lib.hid (show OwnSp 44 W4 w3.heap.size (v1) L 3 from by have h9 := hown; rw [List.nil_append, spcs3] at h9; exact h9)
            clear hown hgr hbl HE12 HE13
            refine hK.out _ _ k_W4 (fun hHeld => ?_)
            clear hK K
            simp only [Act.put, List.setIfInBounds_toArray, List.set_cons_zero, List.set_cons_succ]
            refine wpAnyH_ready (rs := [7]) (by kernel_rfl) (by simp) ?_
            refine (AllReadyH.cons rfl (fun K hK => ?_) AllReadyH.nil)
            rw [if_pos (show Region.wanted _ _ = true from rfl)]
            refine wp_app_own (some 55) rfl (.tmp 52) (.tmp 54) rfl w3.heap.size (.slice (some ⟨W0.heap.size, 0, none⟩) 0 0) [] HO2.out rfl _ (.slice sa stay.length sc) stay (HS2.out.keep k_W4) rfl (by simp; omega) k_W4.size ?_
            intro v2 W5 hown hgr hbl
            have k_W5 : Keeps w3 W5 := Keeps.grown k_W4 hgr (fun kk e => (HO2.out.lt kk e).1)
            have HE21 := Lib.hid (show ∀ kk, v2.ownBlock = some kk → ∀ kk', (v1 : Value).ownBlock = some kk' → kk ≠ kk' from fun kk e kk' e' => by { rcases hbl with h | h; { exact HD21.out kk (h ▸ e) kk' e' }; { rw [h] at e; have := HO1.out.lt kk' e'; have e2 : W4.heap.size = kk := Option.some.inj e; omega } })
            have HE23 := Lib.hid (show ∀ kk, v2.ownBlock = some kk → ∀ kk', (.slice (some ⟨W1.heap.size, 0, none⟩) 0 0 : Value).ownBlock = some kk' → kk ≠ kk' from fun kk e kk' e' => by { rcases hbl with h | h; { exact HD23.out kk (h ▸ e) kk' e' }; { rw [h] at e; have := HO3.out.lt kk' e'; have e2 : W4.heap.size = kk := Option.some.inj e; omega } })
            have HO1 := Lib.hid (show OwnSp 44 W5 w3.heap.size (v1) L 3 from HO1.out.touch (Touch.grown (S := fun kk => (.slice (some ⟨W0.heap.size, 0, none⟩) 0 0 : Value).ownBlock = some kk) (Touch.refl _ W4) hgr (fun kk e _ => e)) (fun kk e h => HD21.out kk h kk e rfl))
            have HO3 := Lib.hid (show OwnInts W5 w3.heap.size (.slice (some ⟨W1.heap.size, 0, none⟩) 0 0) [] from HO3.out.touch (Touch.grown (S := fun kk => (.slice (some ⟨W0.heap.size, 0, none⟩) 0 0 : Value).ownBlock = some kk) (Touch.refl _ W4) hgr (fun kk e _ => e)) (fun kk e h => HD23.out kk h kk e rfl))
            have HD21 := HE21
            have HD12 := Lib.hid (fun kk e kk' e' => (HE21.out kk' e' kk e).symm)
            have HD23 := HE23
            have HD32 := Lib.hid (fun kk e kk' e' => (HE23.out kk' e' kk e).symm)
            have HO2 := Lib.hid (show OwnInts W5 w3.heap.size (v2) stay from hown)
            clear hown hgr hbl HE21 HE23
            refine hK.out _ _ k_W5 (fun hHeld => ?_)
            clear hK K
            simp only [Act.put, List.setIfInBounds_toArray, List.set_cons_zero, List.set_cons_succ]
            refine wpAnyH_ready (rs := [11]) (by kernel_rfl) (by simp) ?_
            refine (AllReadyH.cons rfl (fun K hK => ?_) AllReadyH.nil)
            rw [if_pos (show Region.wanted _ _ = true from rfl)]
            refine wp_app_own (some 59) rfl (.tmp 56) (.tmp 58) rfl w3.heap.size (.slice (some ⟨W1.heap.size, 0, none⟩) 0 0) [] HO3.out rfl _ (.slice ra roots.length rc') roots (HS3.out.keep k_W5) rfl (by simp; omega) k_W5.size ?_
            intro v3 W6 hown hgr hbl
            have k_W6 : Keeps w3 W6 := Keeps.grown k_W5 hgr (fun kk e => (HO3.out.lt kk e).1)
            have HE31 := Lib.hid (show ∀ kk, v3.ownBlock = some kk → ∀ kk', (v1 : Value).ownBlock = some kk' → kk ≠ kk' from fun kk e kk' e' => by { rcases hbl with h | h; { exact HD31.out kk (h ▸ e) kk' e' }; { rw [h] at e; have := HO1.out.lt kk' e'; have e2 : W5.heap.size = kk := Option.some.inj e; omega } })
            have HE32 := Lib.hid (show ∀ kk, v3.ownBlock = some kk → ∀ kk', (v2 : Value).ownBlock = some kk' → kk ≠ kk' from fun kk e kk' e' => by { rcases hbl with h | h; { exact HD32.out kk (h ▸ e) kk' e' }; { rw [h] at e; have := HO2.out.lt kk' e'; have e2 : W5.heap.size = kk := Option.some.inj e; omega } })
            have HO1 := Lib.hid (show OwnSp 44 W6 w3.heap.size (v1) L 3 from HO1.out.touch (Touch.grown (S := fun kk => (.slice (some ⟨W1.heap.size, 0, none⟩) 0 0 : Value).ownBlock = some kk) (Touch.refl _ W5) hgr (fun kk e _ => e)) (fun kk e h => HD31.out kk h kk e rfl))
            have HO2 := Lib.hid (show OwnInts W6 w3.heap.size (v2) stay from HO2.out.touch (Touch.grown (S := fun kk => (.slice (some ⟨W1.heap.size, 0, none⟩) 0 0 : Value).ownBlock = some kk) (Touch.refl _ W5) hgr (fun kk e _ => e)) (fun kk e h => HD32.out kk h kk e rfl))
            have HD31 := HE31
            have HD13 := Lib.hid (fun kk e kk' e' => (HE31.out kk' e' kk e).symm)
            have HD32 := HE32
            have HD23 := Lib.hid (fun kk e kk' e' => (HE32.out kk' e' kk e).symm)
            have HO3 := Lib.hid (show OwnInts W6 w3.heap.size (v3) roots from hown)
            clear hown hgr hbl HE31 HE32
            refine hK.out _ _ k_W6 (fun hHeld => ?_)
            clear hK K
            simp only [Act.put, List.setIfInBounds_toArray, List.set_cons_zero, List.set_cons_succ]
            refine' wpAnyH_take (i := 12) ?hi12_16 ?hs12_16 ?hf12_16 ?hr12_16 ?hQ12_16 ?hy12_16 (by assumption) ?rest12_16
            case hi12_16 => simp only [List.getElem?_toArray, List.getElem?_cons_succ, List.getElem?_cons_zero] <;> rfl
            case hs12_16 => kernel_rfl
            case hf12_16 => kernel_rfl
            case hr12_16 => kernel_rfl
            case hQ12_16 => exact fun _ _ _ h => h
            case hy12_16 => exact Or.inl ⟨by rfl, fun w hSw => by go_simp <;> (try with_reducible rfl)⟩
            simp only [Act.put, List.setIfInBounds_toArray, List.set_cons_zero, List.set_cons_succ]
            refine' wpAnyH_take (i := 13) ?hi13_16 ?hs13_16 ?hf13_16 ?hr13_16 ?hQ13_16 ?hy13_16 (by assumption) ?rest13_16
            case hi13_16 => simp only [List.getElem?_toArray, List.getElem?_cons_succ, List.getElem?_cons_zero] <;> rfl
            case hs13_16 => kernel_rfl
            case hf13_16 => kernel_rfl
            case hr13_16 => kernel_rfl
            case hQ13_16 => exact fun _ _ _ h => h
            case hy13_16 => exact Or.inl ⟨by rfl, fun w hSw => by go_simp <;> (try with_reducible rfl)⟩
            simp only [Act.put, List.setIfInBounds_toArray, List.set_cons_zero, List.set_cons_succ]
            refine' wpAnyH_take (i := 14) ?hi14_16 ?hs14_16 ?hf14_16 ?hr14_16 ?hQ14_16 ?hy14_16 (by assumption) ?rest14_16
            case hi14_16 => simp only [List.getElem?_toArray, List.getElem?_cons_succ, List.getElem?_cons_zero] <;> rfl
            case hs14_16 => kernel_rfl
            case hf14_16 => kernel_rfl
            case hr14_16 => kernel_rfl
            case hQ14_16 => exact fun _ _ _ h => h
            case hy14_16 => exact Or.inl ⟨by rfl, fun w hSw => by go_simp <;> (try with_reducible rfl)⟩
            simp only [Act.put, List.setIfInBounds_toArray, List.set_cons_zero, List.set_cons_succ]
            refine' wpAnyH_take (i := 15) ?hi15_16 ?hs15_16 ?hf15_16 ?hr15_16 ?hQ15_16 ?hy15_16 (by assumption) ?rest15_16
            case hi15_16 => simp only [List.getElem?_toArray, List.getElem?_cons_succ, List.getElem?_cons_zero] <;> rfl
            case hs15_16 => kernel_rfl
            case hf15_16 => kernel_rfl
            case hr15_16 => kernel_rfl
            case hQ15_16 => exact fun _ _ _ h => h
            case hy15_16 => exact Or.inl ⟨by rfl, fun w hSw => by go_simp <;> (try with_reducible rfl)⟩
            simp only [Act.put, List.setIfInBounds_toArray, List.set_cons_zero, List.set_cons_succ]
            refine wpAnyH_done (by kernel_rfl) ?_ _
            refine NoPanic.normal ?_
            go_wp2_with fail
            go_meet
            exact ⟨v1, v2, v3, rfl, rfl, rfl, rfl, HO1.out, HO2.out, HO3.out, HD12.out, HD13.out, HD23.out, k_W6⟩
        · go_simp
          refine hK.out _ _ (Touch.alloc k_W0 _) (fun hHeld => named_any (fun W1 hW_ => ?_))
          clear hK K
          have k_W1 : Keeps w3 W1 := by rw [hW_]; exact Touch.alloc k_W0 _
          have HO3 := Lib.hid (show OwnInts W1 w3.heap.size (.slice (some ⟨W0.heap.size, 0, none⟩) 0 0) [] from by rw [hW_]; exact own_empty W0 w3.heap.size W0.heap.size rfl k_W0.size)
          clear hW_
          refine wpAnyH_ready (rs := [0, 4]) (by kernel_rfl) (by simp) ?_
          refine (AllReadyH.cons rfl (fun K hK => ?_) (AllReadyH.cons rfl (fun K hK => ?_) AllReadyH.nil))
          · go_simp
            refine hK.out _ _ (Touch.alloc k_W1 _) (fun hHeld => named_any (fun W2 hW_ => ?_))
            clear hK K
            have k_W2 : Keeps w3 W2 := by rw [hW_]; exact Touch.alloc k_W1 _
            have HD13 := Lib.hid (show ∀ kk, (.slice (some ⟨W1.heap.size, 0, none⟩) 0 0 : Value).ownBlock = some kk → ∀ kk', (.slice (some ⟨W0.heap.size, 0, none⟩) 0 0 : Value).ownBlock = some kk' → kk ≠ kk' from fun kk e kk' e' => by have := HO3.out.lt kk' e'; have e2 : W1.heap.size = kk := Option.some.inj e; omega)
            have HD31 := Lib.hid (fun kk e kk' e' => (HD13.out kk' e' kk e).symm)
            have HO3 := Lib.hid (show OwnInts W2 w3.heap.size (.slice (some ⟨W0.heap.size, 0, none⟩) 0 0) [] from HO3.out.touch (S := fun _ => False) (by rw [hW_]; exact Touch.alloc (Touch.refl _ W1) _) (fun _ _ h => h))
            have HO1 := Lib.hid (show OwnSp 44 W2 w3.heap.size (.slice (some ⟨W1.heap.size, 0, none⟩) 0 0) L 0 from by rw [hW_]; exact own_sp0 _ W1 w3.heap.size W1.heap.size L rfl k_W1.size)
            clear hW_
            refine wpAnyH_ready (rs := [3, 4]) (by kernel_rfl) (by simp) ?_
            refine (AllReadyH.cons rfl (fun K hK => ?_) (AllReadyH.cons rfl (fun K hK => ?_) AllReadyH.nil))
            · rw [if_pos (show Region.wanted _ _ = true from rfl)]
              refine wp_app_rd (some 51) rfl (.tmp 48) (.tmp 50) rfl Try.underlying34 info_sp rfl (by decide) w3.heap.size (.slice (some ⟨W1.heap.size, 0, none⟩) 0 0) 0 [] rfl HO1.out ⟨gs, 0, none⟩ 3 scp rfl (spF L) (HRw.out.keep k_W2) (fun j _ => spF_one L j) (by omega) (by decide) k_W2.size ?_
              intro v1 W3 hown hgr hbl
              have k_W3 : Keeps w3 W3 := Keeps.grown k_W2 hgr (fun kk e => (HO1.out.lt kk e).1)
              have HE13 := Lib.hid (show ∀ kk, v1.ownBlock = some kk → ∀ kk', (.slice (some ⟨W0.heap.size, 0, none⟩) 0 0 : Value).ownBlock = some kk' → kk ≠ kk' from fun kk e kk' e' => by { rcases hbl with h | h; { exact HD13.out kk (h ▸ e) kk' e' }; { rw [h] at e; have := HO3.out.lt kk' e'; have e2 : W2.heap.size = kk := Option.some.inj e; omega } })
              have HO3 := Lib.hid (show OwnInts W3 w3.heap.size (.slice (some ⟨W0.heap.size, 0, none⟩) 0 0) [] from HO3.out.touch (Touch.grown (S := fun kk => (.slice (some ⟨W1.heap.size, 0, none⟩) 0 0 : Value).ownBlock = some kk) (Touch.refl _ W2) hgr (fun kk e _ => e)) (fun kk e h => HD13.out kk h kk e rfl))
              have HD13 := HE13
              have HD31 := Lib.hid (fun kk e kk' e' => (HE13.out kk' e' kk e).symm)
              have HO1 := Lib.hid (show OwnSp 44 W3 w3.heap.size (v1) L 3 from by have h9 := hown; rw [List.nil_append, spcs3] at h9; exact h9)
              clear hown hgr hbl HE13
              refine hK.out _ _ k_W3 (fun hHeld => ?_)
              clear hK K
              simp only [Act.put, List.setIfInBounds_toArray, List.set_cons_zero, List.set_cons_succ]
              refine wpAnyH_ready (rs := [4]) (by kernel_rfl) (by simp) ?_
              refine (AllReadyH.cons rfl (fun K hK => ?_) AllReadyH.nil)
              go_simp
              refine hK.out _ _ (Touch.alloc k_W3 _) (fun hHeld => named_any (fun W4 hW_ => ?_))
              clear hK K
              have k_W4 : Keeps w3 W4 := by rw [hW_]; exact Touch.alloc k_W3 _
              have HD21 := Lib.hid (show ∀ kk, (.slice (some ⟨W3.heap.size, 0, none⟩) 0 0 : Value).ownBlock = some kk → ∀ kk', (v1 : Value).ownBlock = some kk' → kk ≠ kk' from fun kk e kk' e' => by have := HO1.out.lt kk' e'; have e2 : W3.heap.size = kk := Option.some.inj e; omega)
              have HD12 := Lib.hid (fun kk e kk' e' => (HD21.out kk' e' kk e).symm)
              have HD23 := Lib.hid (show ∀ kk, (.slice (some ⟨W3.heap.size, 0, none⟩) 0 0 : Value).ownBlock = some kk → ∀ kk', (.slice (some ⟨W0.heap.size, 0, none⟩) 0 0 : Value).ownBlock = some kk' → kk ≠ kk' from fun kk e kk' e' => by have := HO3.out.lt kk' e'; have e2 : W3.heap.size = kk := Option.some.inj e; omega)
              have HD32 := Lib.hid (fun kk e kk' e' => (HD23.out kk' e' kk e).symm)
              have HO1 := Lib.hid (show OwnSp 44 W4 w3.heap.size (v1) L 3 from HO1.out.touch (S := fun _ => False) (by rw [hW_]; exact Touch.alloc (Touch.refl _ W3) _) (fun _ _ h => h))
              have HO3 := Lib.hid (show OwnInts W4 w3.heap.size (.slice (some ⟨W0.heap.size, 0, none⟩) 0 0) [] from HO3.out.touch (S := fun _ => False) (by rw [hW_]; exact Touch.alloc (Touch.refl _ W3) _) (fun _ _ h => h))
              have HO2 := Lib.hid (show OwnInts W4 w3.heap.size (.slice (some ⟨W3.heap.size, 0, none⟩) 0 0) [] from by rw [hW_]; exact own_empty W3 w3.heap.size W3.heap.size rfl k_W3.size)
              clear hW_
              refine wpAnyH_ready (rs := [7]) (by kernel_rfl) (by simp) ?_
              refine (AllReadyH.cons rfl (fun K hK => ?_) AllReadyH.nil)
              rw [if_pos (show Region.wanted _ _ = true from rfl)]
              refine wp_app_own (some 55) rfl (.tmp 52) (.tmp 54) rfl w3.heap.size (.slice (some ⟨W3.heap.size, 0, none⟩) 0 0) [] HO2.out rfl _ (.slice sa stay.length sc) stay (HS2.out.keep k_W4) rfl (by simp; omega) k_W4.size ?_
              intro v2 W5 hown hgr hbl
              have k_W5 : Keeps w3 W5 := Keeps.grown k_W4 hgr (fun kk e => (HO2.out.lt kk e).1)
              have HE21 := Lib.hid (show ∀ kk, v2.ownBlock = some kk → ∀ kk', (v1 : Value).ownBlock = some kk' → kk ≠ kk' from fun kk e kk' e' => by { rcases hbl with h | h; { exact HD21.out kk (h ▸ e) kk' e' }; { rw [h] at e; have := HO1.out.lt kk' e'; have e2 : W4.heap.size = kk := Option.some.inj e; omega } })
              have HE23 := Lib.hid (show ∀ kk, v2.ownBlock = some kk → ∀ kk', (.slice (some ⟨W0.heap.size, 0, none⟩) 0 0 : Value).ownBlock = some kk' → kk ≠ kk' from fun kk e kk' e' => by { rcases hbl with h | h; { exact HD23.out kk (h ▸ e) kk' e' }; { rw [h] at e; have := HO3.out.lt kk' e'; have e2 : W4.heap.size = kk := Option.some.inj e; omega } })
              have HO1 := Lib.hid (show OwnSp 44 W5 w3.heap.size (v1) L 3 from HO1.out.touch (Touch.grown (S := fun kk => (.slice (some ⟨W3.heap.size, 0, none⟩) 0 0 : Value).ownBlock = some kk) (Touch.refl _ W4) hgr (fun kk e _ => e)) (fun kk e h => HD21.out kk h kk e rfl))
              have HO3 := Lib.hid (show OwnInts W5 w3.heap.size (.slice (some ⟨W0.heap.size, 0, none⟩) 0 0) [] from HO3.out.touch (Touch.grown (S := fun kk => (.slice (some ⟨W3.heap.size, 0, none⟩) 0 0 : Value).ownBlock = some kk) (Touch.refl _ W4) hgr (fun kk e _ => e)) (fun kk e h => HD23.out kk h kk e rfl))
              have HD21 := HE21
              have HD12 := Lib.hid (fun kk e kk' e' => (HE21.out kk' e' kk e).symm)
              have HD23 := HE23
              have HD32 := Lib.hid (fun kk e kk' e' => (HE23.out kk' e' kk e).symm)
              have HO2 := Lib.hid (show OwnInts W5 w3.heap.size (v2) stay from hown)
              clear hown hgr hbl HE21 HE23
              refine hK.out _ _ k_W5 (fun hHeld => ?_)
              clear hK K
              simp only [Act.put, List.setIfInBounds_toArray, List.set_cons_zero, List.set_cons_succ]
              refine wpAnyH_ready (rs := [11]) (by kernel_rfl) (by simp) ?_
              refine (AllReadyH.cons rfl (fun K hK => ?_) AllReadyH.nil)
              rw [if_pos (show Region.wanted _ _ = true from rfl)]
              refine wp_app_own (some 59) rfl (.tmp 56) (.tmp 58) rfl w3.heap.size (.slice (some ⟨W0.heap.size, 0, none⟩) 0 0) [] HO3.out rfl _ (.slice ra roots.length rc') roots (HS3.out.keep k_W5) rfl (by simp; omega) k_W5.size ?_
              intro v3 W6 hown hgr hbl
              have k_W6 : Keeps w3 W6 := Keeps.grown k_W5 hgr (fun kk e => (HO3.out.lt kk e).1)
              have HE31 := Lib.hid (show ∀ kk, v3.ownBlock = some kk → ∀ kk', (v1 : Value).ownBlock = some kk' → kk ≠ kk' from fun kk e kk' e' => by { rcases hbl with h | h; { exact HD31.out kk (h ▸ e) kk' e' }; { rw [h] at e; have := HO1.out.lt kk' e'; have e2 : W5.heap.size = kk := Option.some.inj e; omega } })
              have HE32 := Lib.hid (show ∀ kk, v3.ownBlock = some kk → ∀ kk', (v2 : Value).ownBlock = some kk' → kk ≠ kk' from fun kk e kk' e' => by { rcases hbl with h | h; { exact HD32.out kk (h ▸ e) kk' e' }; { rw [h] at e; have := HO2.out.lt kk' e'; have e2 : W5.heap.size = kk := Option.some.inj e; omega } })
              have HO1 := Lib.hid (show OwnSp 44 W6 w3.heap.size (v1) L 3 from HO1.out.touch (Touch.grown (S := fun kk => (.slice (some ⟨W0.heap.size, 0, none⟩) 0 0 : Value).ownBlock = some kk) (Touch.refl _ W5) hgr (fun kk e _ => e)) (fun kk e h => HD31.out kk h kk e rfl))
              have HO2 := Lib.hid (show OwnInts W6 w3.heap.size (v2) stay from HO2.out.touch (Touch.grown (S := fun kk => (.slice (some ⟨W0.heap.size, 0, none⟩) 0 0 : Value).ownBlock = some kk) (Touch.refl _ W5) hgr (fun kk e _ => e)) (fun kk e h => HD32.out kk h kk e rfl))
              have HD31 := HE31
              have HD13 := Lib.hid (fun kk e kk' e' => (HE31.out kk' e' kk e).symm)
              have HD32 := HE32
              have HD23 := Lib.hid (fun kk e kk' e' => (HE32.out kk' e' kk e).symm)
              have HO3 := Lib.hid (show OwnInts W6 w3.heap.size (v3) roots from hown)
              clear hown hgr hbl HE31 HE32
              refine hK.out _ _ k_W6 (fun hHeld => ?_)
              clear hK K
              simp only [Act.put, List.setIfInBounds_toArray, List.set_cons_zero, List.set_cons_succ]
              refine' wpAnyH_take (i := 12) ?hi12_17 ?hs12_17 ?hf12_17 ?hr12_17 ?hQ12_17 ?hy12_17 (by assumption) ?rest12_17
              case hi12_17 => simp only [List.getElem?_toArray, List.getElem?_cons_succ, List.getElem?_cons_zero] <;> rfl
              case hs12_17 => kernel_rfl
              case hf12_17 => kernel_rfl
              case hr12_17 => kernel_rfl
              case hQ12_17 => exact fun _ _ _ h => h
              case hy12_17 => exact Or.inl ⟨by rfl, fun w hSw => by go_simp <;> (try with_reducible rfl)⟩
              simp only [Act.put, List.setIfInBounds_toArray, List.set_cons_zero, List.set_cons_succ]
              refine' wpAnyH_take (i := 13) ?hi13_17 ?hs13_17 ?hf13_17 ?hr13_17 ?hQ13_17 ?hy13_17 (by assumption) ?rest13_17
              case hi13_17 => simp only [List.getElem?_toArray, List.getElem?_cons_succ, List.getElem?_cons_zero] <;> rfl
              case hs13_17 => kernel_rfl
              case hf13_17 => kernel_rfl
              case hr13_17 => kernel_rfl
              case hQ13_17 => exact fun _ _ _ h => h
              case hy13_17 => exact Or.inl ⟨by rfl, fun w hSw => by go_simp <;> (try with_reducible rfl)⟩
              simp only [Act.put, List.setIfInBounds_toArray, List.set_cons_zero, List.set_cons_succ]
              refine' wpAnyH_take (i := 14) ?hi14_17 ?hs14_17 ?hf14_17 ?hr14_17 ?hQ14_17 ?hy14_17 (by assumption) ?rest14_17
              case hi14_17 => simp only [List.getElem?_toArray, List.getElem?_cons_succ, List.getElem?_cons_zero] <;> rfl
              case hs14_17 => kernel_rfl
              case hf14_17 => kernel_rfl
              case hr14_17 => kernel_rfl
              case hQ14_17 => exact fun _ _ _ h => h
              case hy14_17 => exact Or.inl ⟨by rfl, fun w hSw => by go_simp <;> (try with_reducible rfl)⟩
              simp only [Act.put, List.setIfInBounds_toArray, List.set_cons_zero, List.set_cons_succ]
              refine' wpAnyH_take (i := 15) ?hi15_17 ?hs15_17 ?hf15_17 ?hr15_17 ?hQ15_17 ?hy15_17 (by assumption) ?rest15_17
              case hi15_17 => simp only [List.getElem?_toArray, List.getElem?_cons_succ, List.getElem?_cons_zero] <;> rfl
              case hs15_17 => kernel_rfl
              case hf15_17 => kernel_rfl
              case hr15_17 => kernel_rfl
              case hQ15_17 => exact fun _ _ _ h => h
              case hy15_17 => exact Or.inl ⟨by rfl, fun w hSw => by go_simp <;> (try with_reducible rfl)⟩
              simp only [Act.put, List.setIfInBounds_toArray, List.set_cons_zero, List.set_cons_succ]
              refine wpAnyH_done (by kernel_rfl) ?_ _
              refine NoPanic.normal ?_
              go_wp2_with fail
              go_meet
              exact ⟨v1, v2, v3, rfl, rfl, rfl, rfl, HO1.out, HO2.out, HO3.out, HD12.out, HD13.out, HD23.out, k_W6⟩
            · go_simp
              refine hK.out _ _ (Touch.alloc k_W2 _) (fun hHeld => named_any (fun W3 hW_ => ?_))
              clear hK K
              have k_W3 : Keeps w3 W3 := by rw [hW_]; exact Touch.alloc k_W2 _
              have HD21 := Lib.hid (show ∀ kk, (.slice (some ⟨W2.heap.size, 0, none⟩) 0 0 : Value).ownBlock = some kk → ∀ kk', (.slice (some ⟨W1.heap.size, 0, none⟩) 0 0 : Value).ownBlock = some kk' → kk ≠ kk' from fun kk e kk' e' => by have := HO1.out.lt kk' e'; have e2 : W2.heap.size = kk := Option.some.inj e; omega)
              have HD12 := Lib.hid (fun kk e kk' e' => (HD21.out kk' e' kk e).symm)
              have HD23 := Lib.hid (show ∀ kk, (.slice (some ⟨W2.heap.size, 0, none⟩) 0 0 : Value).ownBlock = some kk → ∀ kk', (.slice (some ⟨W0.heap.size, 0, none⟩) 0 0 : Value).ownBlock = some kk' → kk ≠ kk' from fun kk e kk' e' => by have := HO3.out.lt kk' e'; have e2 : W2.heap.size = kk := Option.some.inj e; omega)
              have HD32 := Lib.hid (fun kk e kk' e' => (HD23.out kk' e' kk e).symm)
              have HO1 := Lib.hid (show OwnSp 44 W3 w3.heap.size (.slice (some ⟨W1.heap.size, 0, none⟩) 0 0) L 0 from HO1.out.touch (S := fun _ => False) (by rw [hW_]; exact Touch.alloc (Touch.refl _ W2) _) (fun _ _ h => h))
              have HO3 := Lib.hid (show OwnInts W3 w3.heap.size (.slice (some ⟨W0.heap.size, 0, none⟩) 0 0) [] from HO3.out.touch (S := fun _ => False) (by rw [hW_]; exact Touch.alloc (Touch.refl _ W2) _) (fun _ _ h => h))
              have HO2 := Lib.hid (show OwnInts W3 w3.heap.size (.slice (some ⟨W2.heap.size, 0, none⟩) 0 0) [] from by rw [hW_]; exact own_empty W2 w3.heap.size W2.heap.size rfl k_W2.size)
              clear hW_
              refine wpAnyH_ready (rs := [3]) (by kernel_rfl) (by simp) ?_
              refine (AllReadyH.cons rfl (fun K hK => ?_) AllReadyH.nil)
              rw [if_pos (show Region.wanted _ _ = true from rfl)]
              refine wp_app_rd (some 51) rfl (.tmp 48) (.tmp 50) rfl Try.underlying34 info_sp rfl (by decide) w3.heap.size (.slice (some ⟨W1.heap.size, 0, none⟩) 0 0) 0 [] rfl HO1.out ⟨gs, 0, none⟩ 3 scp rfl (spF L) (HRw.out.keep k_W3) (fun j _ => spF_one L j) (by omega) (by decide) k_W3.size ?_
              intro v1 W4 hown hgr hbl
              have k_W4 : Keeps w3 W4 := Keeps.grown k_W3 hgr (fun kk e => (HO1.out.lt kk e).1)
              have HE12 := Lib.hid (show ∀ kk, v1.ownBlock = some kk → ∀ kk', (.slice (some ⟨W2.heap.size, 0, none⟩) 0 0 : Value).ownBlock = some kk' → kk ≠ kk' from fun kk e kk' e' => by { rcases hbl with h | h; { exact HD12.out kk (h ▸ e) kk' e' }; { rw [h] at e; have := HO2.out.lt kk' e'; have e2 : W3.heap.size = kk := Option.some.inj e; omega } })
              have HE13 := Lib.hid (show ∀ kk, v1.ownBlock = some kk → ∀ kk', (.slice (some ⟨W0.heap.size, 0, none⟩) 0 0 : Value).ownBlock = some kk' → kk ≠ kk' from fun kk e kk' e' => by { rcases hbl with h | h; { exact HD13.out kk (h ▸ e) kk' e' }; { rw [h] at e; have := HO3.out.lt kk' e'; have e2 : W3.heap.size = kk := Option.some.inj e; omega } })
              have HO2 := Lib.hid (show OwnInts W4 w3.heap.size (.slice (some ⟨W2.heap.size, 0, none⟩) 0 0) [] from HO2.out.touch (Touch.grown (S := fun kk => (.slice (some ⟨W1.heap.size, 0, none⟩) 0 0 : Value).ownBlock = some kk) (Touch.refl _ W3) hgr (fun kk e _ => e)) (fun kk e h => HD12.out kk h kk e rfl))
              have HO3 := Lib.hid (show OwnInts W4 w3.heap.size (.slice (some ⟨W0.heap.size, 0, none⟩) 0 0) [] from HO3.out.touch (Touch.grown (S := fun kk => (.slice (some ⟨W1.heap.size, 0, none⟩) 0 0 : Value).ownBlock = some kk) (Touch.refl _ W3) hgr (fun kk e _ => e)) (fun kk e h => HD13.out kk h kk e rfl))
              have HD12 := HE12
              have HD21 := Lib.hid (fun kk e kk' e' => (HE12.out kk' e' kk e).symm)
              have HD13 := HE13
              have HD31 := Lib.hid (fun kk e kk' e' => (HE13.out kk' e' kk e).symm)
              have HO1 := Lib.hid (show OwnSp 44 W4 w3.heap.size (v1) L 3 from by have h9 := hown; rw [List.nil_append, spcs3] at h9; exact h9)
              clear hown hgr hbl HE12 HE13
              refine hK.out _ _ k_W4 (fun hHeld => ?_)
              clear hK K
              simp only [Act.put, List.setIfInBounds_toArray, List.set_cons_zero, List.set_cons_succ]
              refine wpAnyH_ready (rs := [7]) (by kernel_rfl) (by simp) ?_
              refine (AllReadyH.cons rfl (fun K hK => ?_) AllReadyH.nil)
              rw [if_pos (show Region.wanted _ _ = true from rfl)]
              refine wp_app_own (some 55) rfl (.tmp 52) (.tmp 54) rfl w3.heap.size (.slice (some ⟨W2.heap.size, 0, none⟩) 0 0) [] HO2.out rfl _ (.slice sa stay.length sc) stay (HS2.out.keep k_W4) rfl (by simp; omega) k_W4.size ?_
              intro v2 W5 hown hgr hbl
              have k_W5 : Keeps w3 W5 := Keeps.grown k_W4 hgr (fun kk e => (HO2.out.lt kk e).1)
              have HE21 := Lib.hid (show ∀ kk, v2.ownBlock = some kk → ∀ kk', (v1 : Value).ownBlock = some kk' → kk ≠ kk' from fun kk e kk' e' => by { rcases hbl with h | h; { exact HD21.out kk (h ▸ e) kk' e' }; { rw [h] at e; have := HO1.out.lt kk' e'; have e2 : W4.heap.size = kk := Option.some.inj e; omega } })
              have HE23 := Lib.hid (show ∀ kk, v2.ownBlock = some kk → ∀ kk', (.slice (some ⟨W0.heap.size, 0, none⟩) 0 0 : Value).ownBlock = some kk' → kk ≠ kk' from fun kk e kk' e' => by { rcases hbl with h | h; { exact HD23.out kk (h ▸ e) kk' e' }; { rw [h] at e; have := HO3.out.lt kk' e'; have e2 : W4.heap.size = kk := Option.some.inj e; omega } })
              have HO1 := Lib.hid (show OwnSp 44 W5 w3.heap.size (v1) L 3 from HO1.out.touch (Touch.grown (S := fun kk => (.slice (some ⟨W2.heap.size, 0, none⟩) 0 0 : Value).ownBlock = some kk) (Touch.refl _ W4) hgr (fun kk e _ => e)) (fun kk e h => HD21.out kk h kk e rfl))
              have HO3 := Lib.hid (show OwnInts W5 w3.heap.size (.slice (some ⟨W0.heap.size, 0, none⟩) 0 0) [] from HO3.out.touch (Touch.grown (S := fun kk => (.slice (some ⟨W2.heap.size, 0, none⟩) 0 0 : Value).ownBlock = some kk) (Touch.refl _ W4) hgr (fun kk e _ => e)) (fun kk e h => HD23.out kk h kk e rfl))
              have HD21 := HE21
              have HD12 := Lib.hid (fun kk e kk' e' => (HE21.out kk' e' kk e).symm)
              have HD23 := HE23
              have HD32 := Lib.hid (fun kk e kk' e' => (HE23.out kk' e' kk e).symm)
              have HO2 := Lib.hid (show OwnInts W5 w3.heap.size (v2) stay from hown)
              clear hown hgr hbl HE21 HE23
              refine hK.out _ _ k_W5 (fun hHeld => ?_)
              clear hK K
              simp only [Act.put, List.setIfInBounds_toArray, List.set_cons_zero, List.set_cons_succ]
              refine wpAnyH_ready (rs := [11]) (by kernel_rfl) (by simp) ?_
              refine (AllReadyH.cons rfl (fun K hK => ?_) AllReadyH.nil)
              rw [if_pos (show Region.wanted _ _ = true from rfl)]
              refine wp_app_own (some 59) rfl (.tmp 56) (.tmp 58) rfl w3.heap.size (.slice (some ⟨W0.heap.size, 0, none⟩) 0 0) [] HO3.out rfl _ (.slice ra roots.length rc') roots (HS3.out.keep k_W5) rfl (by simp; omega) k_W5.size ?_
              intro v3 W6 hown hgr hbl
              have k_W6 : Keeps w3 W6 := Keeps.grown k_W5 hgr (fun kk e => (HO3.out.lt kk e).1)
              have HE31 := Lib.hid (show ∀ kk, v3.ownBlock = some kk → ∀ kk', (v1 : Value).ownBlock = some kk' → kk ≠ kk' from fun kk e kk' e' => by { rcases hbl with h | h; { exact HD31.out kk (h ▸ e) kk' e' }; { rw [h] at e; have := HO1.out.lt kk' e'; have e2 : W5.heap.size = kk := Option.some.inj e; omega } })
              have HE32 := Lib.hid (show ∀ kk, v3.ownBlock = some kk → ∀ kk', (v2 : Value).ownBlock = some kk' → kk ≠ kk' from fun kk e kk' e' => by { rcases hbl with h | h; { exact HD32.out kk (h ▸ e) kk' e' }; { rw [h] at e; have := HO2.out.lt kk' e'; have e2 : W5.heap.size = kk := Option.some.inj e; omega } })
              have HO1 := Lib.hid (show OwnSp 44 W6 w3.heap.size (v1) L 3 from HO1.out.touch (Touch.grown (S := fun kk => (.slice (some ⟨W0.heap.size, 0, none⟩) 0 0 : Value).ownBlock = some kk) (Touch.refl _ W5) hgr (fun kk e _ => e)) (fun kk e h => HD31.out kk h kk e rfl))
              have HO2 := Lib.hid (show OwnInts W6 w3.heap.size (v2) stay from HO2.out.touch (Touch.grown (S := fun kk => (.slice (some ⟨W0.heap.size, 0, none⟩) 0 0 : Value).ownBlock = some kk) (Touch.refl _ W5) hgr (fun kk e _ => e)) (fun kk e h => HD32.out kk h kk e rfl))
              have HD31 := HE31
              have HD13 := Lib.hid (fun kk e kk' e' => (HE31.out kk' e' kk e).symm)
              have HD32 := HE32
              have HD23 := Lib.hid (fun kk e kk' e' => (HE32.out kk' e' kk e).symm)
              have HO3 := Lib.hid (show OwnInts W6 w3.heap.size (v3) roots from hown)
              clear hown hgr hbl HE31 HE32
              refine hK.out _ _ k_W6 (fun hHeld => ?_)
              clear hK K
              simp only [Act.put, List.setIfInBounds_toArray, List.set_cons_zero, List.set_cons_succ]
              refine' wpAnyH_take (i := 12) ?hi12_18 ?hs12_18 ?hf12_18 ?hr12_18 ?hQ12_18 ?hy12_18 (by assumption) ?rest12_18
              case hi12_18 => simp only [List.getElem?_toArray, List.getElem?_cons_succ, List.getElem?_cons_zero] <;> rfl
              case hs12_18 => kernel_rfl
              case hf12_18 => kernel_rfl
              case hr12_18 => kernel_rfl
              case hQ12_18 => exact fun _ _ _ h => h
              case hy12_18 => exact Or.inl ⟨by rfl, fun w hSw => by go_simp <;> (try with_reducible rfl)⟩
              simp only [Act.put, List.setIfInBounds_toArray, List.set_cons_zero, List.set_cons_succ]
              refine' wpAnyH_take (i := 13) ?hi13_18 ?hs13_18 ?hf13_18 ?hr13_18 ?hQ13_18 ?hy13_18 (by assumption) ?rest13_18
              case hi13_18 => simp only [List.getElem?_toArray, List.getElem?_cons_succ, List.getElem?_cons_zero] <;> rfl
              case hs13_18 => kernel_rfl
              case hf13_18 => kernel_rfl
              case hr13_18 => kernel_rfl
              case hQ13_18 => exact fun _ _ _ h => h
              case hy13_18 => exact Or.inl ⟨by rfl, fun w hSw => by go_simp <;> (try with_reducible rfl)⟩
              simp only [Act.put, List.setIfInBounds_toArray, List.set_cons_zero, List.set_cons_succ]
              refine' wpAnyH_take (i := 14) ?hi14_18 ?hs14_18 ?hf14_18 ?hr14_18 ?hQ14_18 ?hy14_18 (by assumption) ?rest14_18
              case hi14_18 => simp only [List.getElem?_toArray, List.getElem?_cons_succ, List.getElem?_cons_zero] <;> rfl
              case hs14_18 => kernel_rfl
              case hf14_18 => kernel_rfl
              case hr14_18 => kernel_rfl
              case hQ14_18 => exact fun _ _ _ h => h
              case hy14_18 => exact Or.inl ⟨by rfl, fun w hSw => by go_simp <;> (try with_reducible rfl)⟩
              simp only [Act.put, List.setIfInBounds_toArray, List.set_cons_zero, List.set_cons_succ]
              refine' wpAnyH_take (i := 15) ?hi15_18 ?hs15_18 ?hf15_18 ?hr15_18 ?hQ15_18 ?hy15_18 (by assumption) ?rest15_18
              case hi15_18 => simp only [List.getElem?_toArray, List.getElem?_cons_succ, List.getElem?_cons_zero] <;> rfl
              case hs15_18 => kernel_rfl
              case hf15_18 => kernel_rfl
              case hr15_18 => kernel_rfl
              case hQ15_18 => exact fun _ _ _ h => h
              case hy15_18 => exact Or.inl ⟨by rfl, fun w hSw => by go_simp <;> (try with_reducible rfl)⟩
              simp only [Act.put, List.setIfInBounds_toArray, List.set_cons_zero, List.set_cons_succ]
              refine wpAnyH_done (by kernel_rfl) ?_ _
              refine NoPanic.normal ?_
              go_wp2_with fail
              go_meet
              exact ⟨v1, v2, v3, rfl, rfl, rfl, rfl, HO1.out, HO2.out, HO3.out, HD12.out, HD13.out, HD23.out, k_W6⟩
          · go_simp
            refine hK.out _ _ (Touch.alloc k_W1 _) (fun hHeld => named_any (fun W2 hW_ => ?_))
            clear hK K
            have k_W2 : Keeps w3 W2 := by rw [hW_]; exact Touch.alloc k_W1 _
            have HD23 := Lib.hid (show ∀ kk, (.slice (some ⟨W1.heap.size, 0, none⟩) 0 0 : Value).ownBlock = some kk → ∀ kk', (.slice (some ⟨W0.heap.size, 0, none⟩) 0 0 : Value).ownBlock = some kk' → kk ≠ kk' from fun kk e kk' e' => by have := HO3.out.lt kk' e'; have e2 : W1.heap.size = kk := Option.some.inj e; omega)
            have HD32 := Lib.hid (fun kk e kk' e' => (HD23.out kk' e' kk e).symm)
            have HO3 := Lib.hid (show OwnInts W2 w3.heap.size (.slice (some ⟨W0.heap.size, 0, none⟩) 0 0) [] from HO3.out.touch (S := fun _ => False) (by rw [hW_]; exact Touch.alloc (Touch.refl _ W1) _) (fun _ _ h => h))
            have HO2 := Lib.hid (show OwnInts W2 w3.heap.size (.slice (some ⟨W1.heap.size, 0, none⟩) 0 0) [] from by rw [hW_]; exact own_empty W1 w3.heap.size W1.heap.size rfl k_W1.size)
            clear hW_
            refine wpAnyH_ready (rs := [0]) (by kernel_rfl) (by simp) ?_
            refine (AllReadyH.cons rfl (fun K hK => ?_) AllReadyH.nil)
            go_simp
            refine hK.out _ _ (Touch.alloc k_W2 _) (fun hHeld => named_any (fun W3 hW_ => ?_))
            clear hK K
            have k_W3 : Keeps w3 W3 := by rw [hW_]; exact Touch.alloc k_W2 _
            have HD12 := Lib.hid (show ∀ kk, (.slice (some ⟨W2.heap.size, 0, none⟩) 0 0 : Value).ownBlock = some kk → ∀ kk', (.slice (some ⟨W1.heap.size, 0, none⟩) 0 0 : Value).ownBlock = some kk' → kk ≠ kk' from fun kk e kk' e' => by have := HO2.out.lt kk' e'; have e2 : W2.heap.size = kk := Option.some.inj e; omega)
            have HD21 := Lib.hid (fun kk e kk' e' => (HD12.out kk' e' kk e).symm)
            have HD13 := Lib.hid (show ∀ kk, (.slice (some ⟨W2.heap.size, 0, none⟩) 0 0 : Value).ownBlock = some kk → ∀ kk', (.slice (some ⟨W0.heap.size, 0, none⟩) 0 0 : Value).ownBlock = some kk' → kk ≠ kk' from fun kk e kk' e' => by have := HO3.out.lt kk' e'; have e2 : W2.heap.size = kk := Option.some.inj e; omega)
            have HD31 := Lib.hid (fun kk e kk' e' => (HD13.out kk' e' kk e).symm)
            have HO2 := Lib.hid (show OwnInts W3 w3.heap.size (.slice (some ⟨W1.heap.size, 0, none⟩) 0 0) [] from HO2.out.touch (S := fun _ => False) (by rw [hW_]; exact Touch.alloc (Touch.refl _ W2) _) (fun _ _ h => h))
            have HO3 := Lib.hid (show OwnInts W3 w3.heap.size (.slice (some ⟨W0.heap.size, 0, none⟩) 0 0) [] from HO3.out.touch (S := fun _ => False) (by rw [hW_]; exact Touch.alloc (Touch.refl _ W2) _) (fun _ _ h => h))
            have HO1 := Lib.hid (show OwnSp 44 W3 w3.heap.size (.slice (some ⟨W2.heap.size, 0, none⟩) 0 0) L 0 from by rw [hW_]; exact own_sp0 _ W2 w3.heap.size W2.heap.size L rfl k_W2.size)
            clear hW_
            refine wpAnyH_ready (rs := [3]) (by kernel_rfl) (by simp) ?_
            refine (AllReadyH.cons rfl (fun K hK => ?_) AllReadyH.nil)
            rw [if_pos (show Region.wanted _ _ = true from rfl)]
            refine wp_app_rd (some 51) rfl (.tmp 48) (.tmp 50) rfl Try.underlying34 info_sp rfl (by decide) w3.heap.size (.slice (some ⟨W2.heap.size, 0, none⟩) 0 0) 0 [] rfl HO1.out ⟨gs, 0, none⟩ 3 scp rfl (spF L) (HRw.out.keep k_W3) (fun j _ => spF_one L j) (by omega) (by decide) k_W3.size ?_
            intro v1 W4 hown hgr hbl
            have k_W4 : Keeps w3 W4 := Keeps.grown k_W3 hgr (fun kk e => (HO1.out.lt kk e).1)
            have HE12 := Lib.hid (show ∀ kk, v1.ownBlock = some kk → ∀ kk', (.slice (some ⟨W1.heap.size, 0, none⟩) 0 0 : Value).ownBlock = some kk' → kk ≠ kk' from fun kk e kk' e' => by { rcases hbl with h | h; { exact HD12.out kk (h ▸ e) kk' e' }; { rw [h] at e; have := HO2.out.lt kk' e'; have e2 : W3.heap.size = kk := Option.some.inj e; omega } })
            have HE13 := Lib.hid (show ∀ kk, v1.ownBlock = some kk → ∀ kk', (.slice (some ⟨W0.heap.size, 0, none⟩) 0 0 : Value).ownBlock = some kk' → kk ≠ kk' from fun kk e kk' e' => by { rcases hbl with h | h; { exact HD13.out kk (h ▸ e) kk' e' }; { rw [h] at e; have := HO3.out.lt kk' e'; have e2 : W3.heap.size = kk := Option.some.inj e; omega } })
            have HO2 := Lib.hid (show OwnInts W4 w3.heap.size (.slice (some ⟨W1.heap.size, 0, none⟩) 0 0) [] from HO2.out.touch (Touch.grown (S := fun kk => (.slice (some ⟨W2.heap.size, 0, none⟩) 0 0 : Value).ownBlock = some kk) (Touch.refl _ W3) hgr (fun kk e _ => e)) (fun kk e h => HD12.out kk h kk e rfl))
            have HO3 := Lib.hid (show OwnInts W4 w3.heap.size (.slice (some ⟨W0.heap.size, 0, none⟩) 0 0) [] from HO3.out.touch (Touch.grown (S := fun kk => (.slice (some ⟨W2.heap.size, 0, none⟩) 0 0 : Value).ownBlock = some kk) (Touch.refl _ W3) hgr (fun kk e _ => e)) (fun kk e h => HD13.out kk h kk e rfl))
            have HD12 := HE12
            have HD21 := Lib.hid (fun kk e kk' e' => (HE12.out kk' e' kk e).symm)
            have HD13 := HE13
            have HD31 := Lib.hid (fun kk e kk' e' => (HE13.out kk' e' kk e).symm)
            have HO1 := Lib.hid (show OwnSp 44 W4 w3.heap.size (v1) L 3 from by have h9 := hown; rw [List.nil_append, spcs3] at h9; exact h9)
            clear hown hgr hbl HE12 HE13
            refine hK.out _ _ k_W4 (fun hHeld => ?_)
            clear hK K
            simp only [Act.put, List.setIfInBounds_toArray, List.set_cons_zero, List.set_cons_succ]
            refine wpAnyH_ready (rs := [7]) (by kernel_rfl) (by simp) ?_
            refine (AllReadyH.cons rfl (fun K hK => ?_) AllReadyH.nil)
            rw [if_pos (show Region.wanted _ _ = true from rfl)]
            refine wp_app_own (some 55) rfl (.tmp 52) (.tmp 54) rfl w3.heap.size (.slice (some ⟨W1.heap.size, 0, none⟩) 0 0) [] HO2.out rfl _ (.slice sa stay.length sc) stay (HS2.out.keep k_W4) rfl (by simp; omega) k_W4.size ?_
            intro v2 W5 hown hgr hbl
            have k_W5 : Keeps w3 W5 := Keeps.grown k_W4 hgr (fun kk e => (HO2.out.lt kk e).1)
            have HE21 := Lib.hid (show ∀ kk, v2.ownBlock = some kk → ∀ kk', (v1 : Value).ownBlock = some kk' → kk ≠ kk' from fun kk e kk' e' => by { rcases hbl with h | h; { exact HD21.out kk (h ▸ e) kk' e' }; { rw [h] at e; have := HO1.out.lt kk' e'; have e2 : W4.heap.size = kk := Option.some.inj e; omega } })
            have HE23 := Lib.hid (show ∀ kk, v2.ownBlock = some kk → ∀ kk', (.slice (some ⟨W0.heap.size, 0, none⟩) 0 0 : Value).ownBlock = some kk' → kk ≠ kk' from fun kk e kk' e' => by { rcases hbl with h | h; { exact HD23.out kk (h ▸ e) kk' e' }; { rw [h] at e; have := HO3.out.lt kk' e'; have e2 : W4.heap.size = kk := Option.some.inj e; omega } })
            have HO1 := Lib.hid (show OwnSp 44 W5 w3.heap.size (v1) L 3 from HO1.out.touch (Touch.grown (S := fun kk => (.slice (some ⟨W1.heap.size, 0, none⟩) 0 0 : Value).ownBlock = some kk) (Touch.refl _ W4) hgr (fun kk e _ => e)) (fun kk e h => HD21.out kk h kk e rfl))
            have HO3 := Lib.hid (show OwnInts W5 w3.heap.size (.slice (some ⟨W0.heap.size, 0, none⟩) 0 0) [] from HO3.out.touch (Touch.grown (S := fun kk => (.slice (some ⟨W1.heap.size, 0, none⟩) 0 0 : Value).ownBlock = some kk) (Touch.refl _ W4) hgr (fun kk e _ => e)) (fun kk e h => HD23.out kk h kk e rfl))
            have HD21 := HE21
            have HD12 := Lib.hid (fun kk e kk' e' => (HE21.out kk' e' kk e).symm)
            have HD23 := HE23
            have HD32 := Lib.hid (fun kk e kk' e' => (HE23.out kk' e' kk e).symm)
            have HO2 := Lib.hid (show OwnInts W5 w3.heap.size (v2) stay from hown)
            clear hown hgr hbl HE21 HE23
            refine hK.out _ _ k_W5 (fun hHeld => ?_)
            clear hK K
            simp only [Act.put, List.setIfInBounds_toArray, List.set_cons_zero, List.set_cons_succ]
            refine wpAnyH_ready (rs := [11]) (by kernel_rfl) (by simp) ?_
            refine (AllReadyH.cons rfl (fun K hK => ?_) AllReadyH.nil)
            rw [if_pos (show Region.wanted _ _ = true from rfl)]
            refine wp_app_own (some 59) rfl (.tmp 56) (.tmp 58) rfl w3.heap.size (.slice (some ⟨W0.heap.size, 0, none⟩) 0 0) [] HO3.out rfl _ (.slice ra roots.length rc') roots (HS3.out.keep k_W5) rfl (by simp; omega) k_W5.size ?_
            intro v3 W6 hown hgr hbl
            have k_W6 : Keeps w3 W6 := Keeps.grown k_W5 hgr (fun kk e => (HO3.out.lt kk e).1)
            have HE31 := Lib.hid (show ∀ kk, v3.ownBlock = some kk → ∀ kk', (v1 : Value).ownBlock = some kk' → kk ≠ kk' from fun kk e kk' e' => by { rcases hbl with h | h; { exact HD31.out kk (h ▸ e) kk' e' }; { rw [h] at e; have := HO1.out.lt kk' e'; have e2 : W5.heap.size = kk := Option.some.inj e; omega } })
            have HE32 := Lib.hid (show ∀ kk, v3.ownBlock = some kk → ∀ kk', (v2 : Value).ownBlock = some kk' → kk ≠ kk' from fun kk e kk' e' => by { rcases hbl with h | h; { exact HD32.out kk (h ▸ e) kk' e' }; { rw [h] at e; have := HO2.out.lt kk' e'; have e2 : W5.heap.size = kk := Option.some.inj e; omega } })
            have HO1 := Lib.hid (show OwnSp 44 W6 w3.heap.size (v1) L 3 from HO1.out.touch (Touch.grown (S := fun kk => (.slice (some ⟨W0.heap.size, 0, none⟩) 0 0 : Value).ownBlock = some kk) (Touch.refl _ W5) hgr (fun kk e _ => e)) (fun kk e h => HD31.out kk h kk e rfl))
            have HO2 := Lib.hid (show OwnInts W6 w3.heap.size (v2) stay from HO2.out.touch (Touch.grown (S := fun kk => (.slice (some ⟨W0.heap.size, 0, none⟩) 0 0 : Value).ownBlock = some kk) (Touch.refl _ W5) hgr (fun kk e _ => e)) (fun kk e h => HD32.out kk h kk e rfl))
            have HD31 := HE31
            have HD13 := Lib.hid (fun kk e kk' e' => (HE31.out kk' e' kk e).symm)
            have HD32 := HE32
            have HD23 := Lib.hid (fun kk e kk' e' => (HE32.out kk' e' kk e).symm)
            have HO3 := Lib.hid (show OwnInts W6 w3.heap.size (v3) roots from hown)
            clear hown hgr hbl HE31 HE32
            refine hK.out _ _ k_W6 (fun hHeld => ?_)
            clear hK K
            simp only [Act.put, List.setIfInBounds_toArray, List.set_cons_zero, List.set_cons_succ]
            refine' wpAnyH_take (i := 12) ?hi12_19 ?hs12_19 ?hf12_19 ?hr12_19 ?hQ12_19 ?hy12_19 (by assumption) ?rest12_19
            case hi12_19 => simp only [List.getElem?_toArray, List.getElem?_cons_succ, List.getElem?_cons_zero] <;> rfl
            case hs12_19 => kernel_rfl
            case hf12_19 => kernel_rfl
            case hr12_19 => kernel_rfl
            case hQ12_19 => exact fun _ _ _ h => h
            case hy12_19 => exact Or.inl ⟨by rfl, fun w hSw => by go_simp <;> (try with_reducible rfl)⟩
            simp only [Act.put, List.setIfInBounds_toArray, List.set_cons_zero, List.set_cons_succ]
            refine' wpAnyH_take (i := 13) ?hi13_19 ?hs13_19 ?hf13_19 ?hr13_19 ?hQ13_19 ?hy13_19 (by assumption) ?rest13_19
            case hi13_19 => simp only [List.getElem?_toArray, List.getElem?_cons_succ, List.getElem?_cons_zero] <;> rfl
            case hs13_19 => kernel_rfl
            case hf13_19 => kernel_rfl
            case hr13_19 => kernel_rfl
            case hQ13_19 => exact fun _ _ _ h => h
            case hy13_19 => exact Or.inl ⟨by rfl, fun w hSw => by go_simp <;> (try with_reducible rfl)⟩
            simp only [Act.put, List.setIfInBounds_toArray, List.set_cons_zero, List.set_cons_succ]
            refine' wpAnyH_take (i := 14) ?hi14_19 ?hs14_19 ?hf14_19 ?hr14_19 ?hQ14_19 ?hy14_19 (by assumption) ?rest14_19
            case hi14_19 => simp only [List.getElem?_toArray, List.getElem?_cons_succ, List.getElem?_cons_zero] <;> rfl
            case hs14_19 => kernel_rfl
            case hf14_19 => kernel_rfl
            case hr14_19 => kernel_rfl
            case hQ14_19 => exact fun _ _ _ h => h
            case hy14_19 => exact Or.inl ⟨by rfl, fun w hSw => by go_simp <;> (try with_reducible rfl)⟩
            simp only [Act.put, List.setIfInBounds_toArray, List.set_cons_zero, List.set_cons_succ]
            refine' wpAnyH_take (i := 15) ?hi15_19 ?hs15_19 ?hf15_19 ?hr15_19 ?hQ15_19 ?hy15_19 (by assumption) ?rest15_19
            case hi15_19 => simp only [List.getElem?_toArray, List.getElem?_cons_succ, List.getElem?_cons_zero] <;> rfl
            case hs15_19 => kernel_rfl
            case hf15_19 => kernel_rfl
            case hr15_19 => kernel_rfl
            case hQ15_19 => exact fun _ _ _ h => h
            case hy15_19 => exact Or.inl ⟨by rfl, fun w hSw => by go_simp <;> (try with_reducible rfl)⟩
            simp only [Act.put, List.setIfInBounds_toArray, List.set_cons_zero, List.set_cons_succ]
            refine wpAnyH_done (by kernel_rfl) ?_ _
            refine NoPanic.normal ?_
            go_wp2_with fail
            go_meet
            exact ⟨v1, v2, v3, rfl, rfl, rfl, rfl, HO1.out, HO2.out, HO3.out, HD12.out, HD13.out, HD23.out, k_W6⟩
      case rest =>
      obtain ⟨w4, rfl⟩ : ∃ w4 : World, w4 = wc := ⟨_, rfl⟩
      obtain ⟨v10, v11, v12, rfl, rfl, rfl, rfl, hsp, hos, hor, ha12, ha13, ha23, k4⟩ := hcut
      have B4 := B3.keep k4
      have p0 := B4.c 0 _ rfl
      have p1 := B4.c 1 _ rfl
      have p2 := B4.c 2 _ rfl
      have p3 := B4.c 3 _ rfl
      have z4 := k4.size
      obtain ⟨sg, scap, spv, hv10, hsg, hsc, hsb, hsf⟩ := hsp.blk (by omega)
      subst hv10
      obtain ⟨sa4, sc4, hv11, hsc4, hrs4, hsl4⟩ := hos.cap
      have hsn : sa4 ≠ none := fun e => by subst e; rw [hv11] at hos; have := hos.nilv; omega
      subst hv11
      have HSp := Lib.hid hsp
      have HOs := Lib.hid hos
      have HOr := Lib.hid hor
      have HSt4 := Lib.hid (HSt.out.keep k4)
      obtain ⟨b1, q1, rfl, x1⟩ := hrs4.one hkl
      have hb1 := hsl4 b1 q1 rfl
      have d1 : w4.cell? ⟨b1, q1 + k, none⟩ = some (.int .i64 (gt0 stay k)) := x1
      have nX : ¬ w2.heap.size = bw := by omega
      have nD : ¬ b1 = bw := by omega
      have hbd := HPl.out.2.bd HC.out HPl.out.1 hkl
      have HI64 := Lib.hid (show ∀ x, x ∈ stay → I64 x from fun x hx => by have := HPl.out.1.len HC.out (HPl.out.2.inn x hx); exact i64_small (by omega) (by omega))
      have HR64 := Lib.hid (show ∀ x, x ∈ roots → I64 x from fun x hx => by { rcases HRo.out x hx with h | h; { rw [h]; exact i64_small (by decide) (by decide) }; { exact HI64.out x h } })
      have HPre := Lib.hid (HPl.out.2.pre HC.out HPl.out.1 (by omega))
      have HSf := Lib.hid hsf
      clear hsp hos hor p4 p6 p7 x1 hnb hnb2 HRw HS2 HS3 hsf
      have HA12 := Lib.hid ha12
      have HA13 := Lib.hid ha13
      have HA23 := Lib.hid ha23
      have HSp0 := Lib.hid (show ∀ w', Touch (fun kk => kk ≠ sg ∧ w3.heap.size ≤ kk ∨ kk = bw) w4 w' → ∃ ad cp, (Value.slice (some ⟨sg, 0, none⟩) 3 scap : Value) = .slice ad 3 cp ∧ Rd w' ad (3 * 3) (spF L) from fun w' t => ⟨_, _, rfl, HSp.out.rd.1.keepS t (fun b off e => by
        simp only [Option.some.injEq, Addr.mk.injEq, and_true] at e
        obtain ⟨rfl, _⟩ := e
        intro h; omega)⟩)
      have HTt := Lib.hid (show ∀ j, j < 3 → InI (L j).t from fun j hj => by
        have h1 := (rightB_iff _).1 (HPl.out.1.rise j hj).1
        unfold InI; omega)
      clear ha12 ha13 ha23
      have hx6 : kd % 6 = 0 ∨ kd % 6 = 1 ∨ kd % 6 = 2 ∨ kd % 6 = 3 ∨ kd % 6 = 4 ∨ kd % 6 = 5 := by omega
      go_upto_block 0 with fail
      go_cut [10, 11, 12, 13] from 60 to 134 (fun v10 v11 v12 v13 wx => ∃ f' L' st' ro' E, Fin w3 wx ba bw f' bt A m cap C L' st' ro' v10 v11 v12 E ∧ v13 = .int .i64 E)
      case first =>
        rcases hx6 with hx6 | hx6 | hx6 | hx6 | hx6 | hx6
        · obtain ⟨nm1, hnm1⟩ : ∃ nm1, stay.length - 1 = nm1 := ⟨_, rfl⟩
          have gn1 : IntKind.i64.wrap ((stay.length : Int) - 1) = nm1 := by rw [IntWalk.i64_in _ ⟨by omega, by omega⟩]; omega
          have hn1I : (nm1 : Int) < stay.length := by omega
          obtain ⟨b1', q1', e1', x2⟩ := hrs4.one (show nm1 < stay.length by omega)
          simp only [Option.some.injEq, Addr.mk.injEq, and_true] at e1'
          obtain ⟨rfl, rfl⟩ := e1'
          have d2 : w4.cell? ⟨b1, q1 + nm1, none⟩ = some (.int .i64 (gt0 stay nm1)) := x2
          clear x2
          go_wp2_with (at_builtin; refine app_int ?_ (.tmp 64) (.tmp 71) ?_ w3.heap.size (.slice (some ⟨b1, q1, none⟩) stay.length sc4) stay (HOs.out.alloc _) ?_ w4.heap.size (gt0 stay nm1) ?_ (cell_new _ _ _ _ rfl) (by omega) (by simp; omega) ?_; rfl; rfl; rfl; rfl; intro v5 w5 hown' hgr hbl; have T5 := Touch.grown (S := fun kk => (.slice (some ⟨b1, q1, none⟩) stay.length sc4 : Value).ownBlock = some kk) (Touch.alloc (Touch.refl _ w4) _) hgr (fun kk e _ => e); have O5 : Only bw w3 w5 := Touch.only (Keeps.grown (Touch.alloc k4 _) hgr (fun kk e => (HOs.out.lt kk e).1)); have HO5 := Lib.hid hown'; clear hgr hbl hown')
          go_meet
          refine ⟨f, L, stay ++ [gt0 stay nm1], roots, 1, ⟨HSt.out.fresh (HSt4.out) T5 (fun kk e => (HOs.out.lt kk e).1), HPl.out.1.i64, HSp0.out w5 (T5.mono (fun kk e _ => .inl ⟨fun h => HA12.out sg rfl kk e h.symm, (HOs.out.lt kk e).1⟩)), HTt.out, HO5.out, by simp; omega, ?_, HOr.out.touch T5 (fun kk e h => HA23.out kk h kk e rfl), by omega, HR64.out, .inl ⟨rfl, ?_⟩, O5⟩, rfl⟩
          · intro x hx
            rcases List.mem_append.1 hx with h | h
            · exact HI64.out x h
            · rw [List.mem_singleton.1 h]; exact HI64.out _ (gt0_mem (by omega))
          · rw [List.length_append, ← hnm1]
            exact ref_twice HC.out HPl.out.1 HPl.out.2 (by omega)
        · go_wp2_with (at_builtin; refine app_int ?_ (.tmp 75) (.tmp 76) ?_ w3.heap.size (.slice (some ⟨b1, q1, none⟩) stay.length sc4) stay (HOs.out.alloc _) ?_ w4.heap.size 499 ?_ (cell_new _ _ _ _ rfl) (by omega) (by simp; omega) ?_; rfl; rfl; rfl; rfl; intro v5 w5 hown' hgr hbl; have T5 := Touch.grown (S := fun kk => (.slice (some ⟨b1, q1, none⟩) stay.length sc4 : Value).ownBlock = some kk) (Touch.alloc (Touch.refl _ w4) _) hgr (fun kk e _ => e); have O5 : Only bw w3 w5 := Touch.only (Keeps.grown (Touch.alloc k4 _) hgr (fun kk e => (HOs.out.lt kk e).1)); have HO5 := Lib.hid hown'; clear hgr hbl hown')
          go_meet
          have hfar := ref_far HC.out HPl.out.1 HPl.out.2 roots.length (gt0 roots)
          refine ⟨f, L, stay ++ [499], roots, 12, ⟨HSt.out.fresh (HSt4.out) T5 (fun kk e => (HOs.out.lt kk e).1), HPl.out.1.i64, HSp0.out w5 (T5.mono (fun kk e _ => .inl ⟨fun h => HA12.out sg rfl kk e h.symm, (HOs.out.lt kk e).1⟩)), HTt.out, HO5.out, by simp; omega, ?_, HOr.out.touch T5 (fun kk e h => HA23.out kk h kk e rfl), by omega, HR64.out, .inr ⟨rfl, ?_⟩, O5⟩, rfl⟩
          · intro x hx
            rcases List.mem_append.1 hx with h | h
            · exact HI64.out x h
            · rw [List.mem_singleton.1 h]; exact i64_small (by decide) (by decide)
          · rw [List.length_append]
            exact hfar
        · have g1 : IntKind.i64.wrap (gt0 stay k + 1) = gt0 stay k + 1 := IntWalk.i64_in _ ⟨by omega, by omega⟩
          go_wp2_with (at_builtin; refine app_int ?_ (.tmp 80) (.tmp 86) ?_ w3.heap.size u12 roots (HOr.out.alloc _) ?_ w4.heap.size (gt0 stay k + 1) ?_ (cell_new _ _ _ _ rfl) (by omega) (by simp; omega) ?_; rfl; rfl; rfl; rfl; intro v5 w5 hown' hgr hbl; have T5 := Touch.grown (S := fun kk => (u12 : Value).ownBlock = some kk) (Touch.alloc (Touch.refl _ w4) _) hgr (fun kk e _ => e); have O5 : Only bw w3 w5 := Touch.only (Keeps.grown (Touch.alloc k4 _) hgr (fun kk e => (HOr.out.lt kk e).1)); have HO5 := Lib.hid hown'; clear hgr hbl hown')
          go_meet
          refine ⟨f, L, stay, roots ++ [gt0 stay k + 1], 12, ⟨HSt.out.fresh (HSt4.out) T5 (fun kk e => (HOr.out.lt kk e).1), HPl.out.1.i64, HSp0.out w5 (T5.mono (fun kk e _ => .inl ⟨fun h => HA13.out sg rfl kk e h.symm, (HOr.out.lt kk e).1⟩)), HTt.out, HOs.out.touch T5 (fun kk e h => HA23.out kk e kk h rfl), by omega, HI64.out, HO5.out, by simp; omega, ?_, .inr ⟨rfl, HPre.out, ?_⟩, O5⟩, rfl⟩
          · intro x hx
            rcases List.mem_append.1 hx with h | h
            · exact HR64.out x h
            · rw [List.mem_singleton.1 h]; exact i64_small (by omega) (by omega)
          · rw [List.length_append]
            exact ref_root HC.out HPl.out.1 HPl.out.2 hkl roots
        · have g1 : IntKind.i64.wrap (-1 - ka) = -1 - ka := IntWalk.i64_in _ ⟨by omega, by omega⟩
          obtain ⟨an, han⟩ : ∃ an : Nat, gt0 stay k = an := ⟨(gt0 stay k).toNat, by omega⟩
          have HSto := Lib.hid (show ∀ w', Keeps w4 w' → Calls Try.prog 10 #[.pointer (some ⟨ba, 0, none⟩), .int .i64 (gt0 stay k), .int .i64 (-1 - ka)] w' fun e w2 => e = .returned (.int .i64 0) ∧ St w2 ba bw 500 (putF f (gt0 stay k).toNat (-1 - ka)) bt A m cap C ∧ Only bw w' w2 from fun w' kk => by
            have hs := HSt4.out.keep kk
            refine Calls.mono (show Calls _ _ #[_, .int .i64 (gt0 stay k), _] _ _ from by rw [han]; exact store_yes ba bw 500 f w' hs.ar an (by omega) (-1 - ka)) ?_
            rintro e w2 ⟨rfl, h1, h2⟩
            exact ⟨rfl, by rw [han, Int.toNat_natCast]; exact ⟨h1, hs.tb.touch h2 hs.ne (fun b off e => hs.neA b off e), hs.ne, hs.neA⟩, h2⟩)
          clear han
          go_wp2_with fail
          refine wp_region_noPanic ?_
          refine wp_region_held_drew (S := (fun w' => Only bw w4 w')) (by kernel_rfl) (Only.refl _ w4).drew (fun hHeld => ?_)
          refine' wpAnyH_take (i := 0) ?hi0_1 ?hs0_1 ?hf0_1 ?hr0_1 ?hQ0_1 ?hy0_1 (by assumption) ?rest0_1
          case hi0_1 => simp only [List.getElem?_toArray, List.getElem?_cons_zero] <;> rfl
          case hs0_1 => kernel_rfl
          case hf0_1 => kernel_rfl
          case hr0_1 => kernel_rfl
          case hQ0_1 => exact fun _ _ _ h => h
          case hy0_1 => exact Or.inl ⟨by rfl, fun w hSw => by have q0 := cell_only p0 hSw nX; have q2 := cell_only p2 hSw nX; have q3 := cell_only p3 hSw nX; have q6 := cell_only d1 hSw nD; go_simp <;> (try with_reducible rfl)⟩
          simp only [Act.put, List.setIfInBounds_toArray, List.set_cons_zero, List.set_cons_succ]
          refine' wpAnyH_take (i := 1) ?hi1_1 ?hs1_1 ?hf1_1 ?hr1_1 ?hQ1_1 ?hy1_1 (by assumption) ?rest1_1
          case hi1_1 => simp only [List.getElem?_toArray, List.getElem?_cons_succ, List.getElem?_cons_zero] <;> rfl
          case hs1_1 => kernel_rfl
          case hf1_1 => kernel_rfl
          case hr1_1 => kernel_rfl
          case hQ1_1 => exact fun _ _ _ h => h
          case hy1_1 => exact Or.inl ⟨by rfl, fun w hSw => by have q0 := cell_only p0 hSw nX; have q2 := cell_only p2 hSw nX; have q3 := cell_only p3 hSw nX; have q6 := cell_only d1 hSw nD; go_simp <;> (try with_reducible rfl)⟩
          simp only [Act.put, List.setIfInBounds_toArray, List.set_cons_zero, List.set_cons_succ]
          refine' wpAnyH_take (i := 2) ?hi2_1 ?hs2_1 ?hf2_1 ?hr2_1 ?hQ2_1 ?hy2_1 (by assumption) ?rest2_1
          case hi2_1 => simp only [List.getElem?_toArray, List.getElem?_cons_succ, List.getElem?_cons_zero] <;> rfl
          case hs2_1 => kernel_rfl
          case hf2_1 => kernel_rfl
          case hr2_1 => kernel_rfl
          case hQ2_1 => exact fun _ _ _ h => h
          case hy2_1 => exact Or.inl ⟨by rfl, fun w hSw => by have q0 := cell_only p0 hSw nX; have q2 := cell_only p2 hSw nX; have q3 := cell_only p3 hSw nX; have q6 := cell_only d1 hSw nD; go_simp <;> (try with_reducible rfl)⟩
          simp only [Act.put, List.setIfInBounds_toArray, List.set_cons_zero, List.set_cons_succ]
          refine' wpAnyH_take (i := 3) ?hi3_1 ?hs3_1 ?hf3_1 ?hr3_1 ?hQ3_1 ?hy3_1 (by assumption) ?rest3_1
          case hi3_1 => simp only [List.getElem?_toArray, List.getElem?_cons_succ, List.getElem?_cons_zero] <;> rfl
          case hs3_1 => kernel_rfl
          case hf3_1 => kernel_rfl
          case hr3_1 => kernel_rfl
          case hQ3_1 => exact fun _ _ _ h => h
          case hy3_1 => exact Or.inl ⟨by rfl, fun w hSw => by have q0 := cell_only p0 hSw nX; have q2 := cell_only p2 hSw nX; have q3 := cell_only p3 hSw nX; have q6 := cell_only d1 hSw nD; go_simp <;> (try with_reducible rfl)⟩
          simp only [Act.put, List.setIfInBounds_toArray, List.set_cons_zero, List.set_cons_succ]
          refine' wpAnyH_take (i := 4) ?hi4_1 ?hs4_1 ?hf4_1 ?hr4_1 ?hQ4_1 ?hy4_1 (by assumption) ?rest4_1
          case hi4_1 => simp only [List.getElem?_toArray, List.getElem?_cons_succ, List.getElem?_cons_zero] <;> rfl
          case hs4_1 => kernel_rfl
          case hf4_1 => kernel_rfl
          case hr4_1 => kernel_rfl
          case hQ4_1 => exact fun _ _ _ h => h
          case hy4_1 => exact Or.inl ⟨by rfl, fun w hSw => by have q0 := cell_only p0 hSw nX; have q2 := cell_only p2 hSw nX; have q3 := cell_only p3 hSw nX; have q6 := cell_only d1 hSw nD; go_simp <;> (try with_reducible rfl)⟩
          simp only [Act.put, List.setIfInBounds_toArray, List.set_cons_zero, List.set_cons_succ]
          refine' wpAnyH_take (i := 5) ?hi5_1 ?hs5_1 ?hf5_1 ?hr5_1 ?hQ5_1 ?hy5_1 (by assumption) ?rest5_1
          case hi5_1 => simp only [List.getElem?_toArray, List.getElem?_cons_succ, List.getElem?_cons_zero] <;> rfl
          case hs5_1 => kernel_rfl
          case hf5_1 => kernel_rfl
          case hr5_1 => kernel_rfl
          case hQ5_1 => exact fun _ _ _ h => h
          case hy5_1 => exact Or.inl ⟨by rfl, fun w hSw => by have q0 := cell_only p0 hSw nX; have q2 := cell_only p2 hSw nX; have q3 := cell_only p3 hSw nX; have q6 := cell_only d1 hSw nD; go_simp <;> (try with_reducible rfl)⟩
          simp only [Act.put, List.setIfInBounds_toArray, List.set_cons_zero, List.set_cons_succ]
          refine' wpAnyH_take (i := 6) ?hi6_1 ?hs6_1 ?hf6_1 ?hr6_1 ?hQ6_1 ?hy6_1 (by assumption) ?rest6_1
          case hi6_1 => simp only [List.getElem?_toArray, List.getElem?_cons_succ, List.getElem?_cons_zero] <;> rfl
          case hs6_1 => kernel_rfl
          case hf6_1 => kernel_rfl
          case hr6_1 => kernel_rfl
          case hQ6_1 => exact fun _ _ _ h => h
          case hy6_1 => exact Or.inl ⟨by rfl, fun w hSw => by have q0 := cell_only p0 hSw nX; have q2 := cell_only p2 hSw nX; have q3 := cell_only p3 hSw nX; have q6 := cell_only d1 hSw nD; go_simp <;> (try with_reducible rfl)⟩
          simp only [Act.put, List.setIfInBounds_toArray, List.set_cons_zero, List.set_cons_succ]
          refine' wpAnyH_take (i := 7) ?hi7_1 ?hs7_1 ?hf7_1 ?hr7_1 ?hQ7_1 ?hy7_1 (by assumption) ?rest7_1
          case hi7_1 => simp only [List.getElem?_toArray, List.getElem?_cons_succ, List.getElem?_cons_zero] <;> rfl
          case hs7_1 => kernel_rfl
          case hf7_1 => kernel_rfl
          case hr7_1 => kernel_rfl
          case hQ7_1 => exact fun _ _ _ h => h
          case hy7_1 => exact Or.inl ⟨by rfl, fun w hSw => by have q0 := cell_only p0 hSw nX; have q2 := cell_only p2 hSw nX; have q3 := cell_only p3 hSw nX; have q6 := cell_only d1 hSw nD; go_simp <;> (try with_reducible rfl)⟩
          simp only [Act.put, List.setIfInBounds_toArray, List.set_cons_zero, List.set_cons_succ]
          refine' wpAnyH_take (i := 8) ?hi8_1 ?hs8_1 ?hf8_1 ?hr8_1 ?hQ8_1 ?hy8_1 (by assumption) ?rest8_1
          case hi8_1 => simp only [List.getElem?_toArray, List.getElem?_cons_succ, List.getElem?_cons_zero] <;> rfl
          case hs8_1 => kernel_rfl
          case hf8_1 => kernel_rfl
          case hr8_1 => kernel_rfl
          case hQ8_1 => exact fun _ _ _ h => h
          case hy8_1 => exact Or.inl ⟨by rfl, fun w hSw => by have q0 := cell_only p0 hSw nX; have q2 := cell_only p2 hSw nX; have q3 := cell_only p3 hSw nX; have q6 := cell_only d1 hSw nD; go_simp <;> (try with_reducible rfl)⟩
          simp only [Act.put, List.setIfInBounds_toArray, List.set_cons_zero, List.set_cons_succ]
          refine wpAnyH_ready (rs := [9]) (by kernel_rfl) (by simp) ?_
          refine AllReadyH.cons rfl (fun K hK => ?_) AllReadyH.nil
          go_simp
          with_reducible refine Calls.mono (HSto.out _ (Touch.drew (Touch.refl (fun _ => False) w4))) ?_
          rintro e w5 ⟨rfl, hS5, o5⟩
          go_wp2_with fail
          have h5 := hHeld.trans_ o5
          refine hK.out _ _ h5 (fun hHeld => ?_)
          clear hK K
          refine wpAnyH_done (by kernel_rfl) ?_ _
          refine NoPanic.normal ?_
          go_wp2_with fail
          go_meet
          refine ⟨_, L, stay, roots, 12, ⟨hS5, i64_putF HPl.out.1.i64 ⟨by omega, by omega⟩, HSp0.out w5 (h5.mono (fun kk e _ => .inr e)), HTt.out, HOs.out.touch h5 (fun kk e h => by have := (HOs.out.lt kk e).1; omega), by omega, HI64.out, HOr.out.touch h5 (fun kk e h => by have := (HOr.out.lt kk e).1; omega), by omega, HR64.out, .inr ⟨rfl, HPre.out, ?_⟩, Touch.trans (Touch.only k4) h5 (fun x hx _ => hx)⟩, rfl⟩
          exact ref_spoilt HC.out HPl.out.1 HPl.out.2 hkl (by omega) roots.length (gt0 roots)
        · have s0 : w4.cell? ⟨sg, 0, none⟩ = some (spv 0) := hsb.cell (by omega)
          have s1 : w4.cell? ⟨sg, 1, none⟩ = some (spv 1) := hsb.cell (by omega)
          have z0 := hsb.frozen 0
          have z1 := hsb.frozen 1
          go_wp2_with fail
          go_meet
          have T5 : Only sg w4 ((w4.setCell ⟨sg, 0, none⟩ (.int .i64 0)).setCell ⟨sg, 1, none⟩ (.int .i64 0)) := Touch.set (Touch.set (Only.refl sg w4) 0 _) 1 _
          have B5 := (hsb.set 0 (.int .i64 0)).set 1 (.int .i64 0)
          refine ⟨f, setS L 0 ⟨0, 0, (L 0).e⟩, stay, roots, 1, ⟨HSt.out.fresh (HSt4.out) T5 (fun kk (e : kk = sg) => by omega), HPl.out.1.i64, ⟨_, _, rfl, ?_⟩, ?_, HOs.out.touch T5 (fun kk e h => HA12.out sg rfl kk e h.symm), by omega, HI64.out, HOr.out.touch T5 (fun kk e h => HA13.out sg rfl kk e h.symm), by omega, HR64.out, .inl ⟨rfl, ref_low HC.out HPl.out.1 HPl.out.2 _ _⟩, Touch.trans (Touch.only k4) T5 (fun x (hx : x = sg) hl => by omega)⟩, rfl⟩
          · intro _
            refine ⟨sg, 0, rfl, B5.lt, fun j hj => ?_⟩
            rw [Nat.zero_add, B5.cell (by omega)]
            unfold upd
            have hf := HSf.out j hj
            by_cases e1 : j = 1
            · subst e1; rfl
            · by_cases e0 : j = 0
              · subst e0; rfl
              · rw [if_neg e1, if_neg e0, hf]
                unfold spF setS
                by_cases e3 : j / 3 = 0
                · rw [if_pos e3, e3, if_neg (by omega), if_neg (by omega), if_neg (by omega), if_neg (by omega)]
                · rw [if_neg e3]
          · intro j hj
            unfold setS
            split
            · show InI 0; unfold InI; omega
            · exact HTt.out j hj
        · obtain ⟨r, hr⟩ : ∃ r, (objP (atT 500 f m C (gt0 stay k))).1.refs = r := ⟨_, rfl⟩
          obtain ⟨dd, hdd⟩ : ∃ dd, (objP (atT 500 f m C (gt0 stay k))).1.data = dd := ⟨_, rfl⟩
          obtain ⟨h_, r_, d_, k_, hat, hcz, hok, hr0, hd0, hkk, _, _⟩ := HPl.out.2.obj HC.out HPl.out.1 (by omega) hkl
          have hob : objP (atT 500 f m C (gt0 stay k)) = (⟨h_, r_, d_, k_⟩, 0) := by rw [hat]; exact objP_same (fun q => hcz q.2)
          have hr00 : 0 ≤ r ∧ r ≤ 500 := by rw [← hr, hob]; dsimp only; omega
          have HShp := Lib.hid (show ∀ w', Keeps w4 w' → Calls Try.prog 11 #[.agg #[.pointer (some ⟨ba, 0, none⟩), .pointer (some ⟨bt, 0, none⟩)], .int .i64 (gt0 stay k)] w' fun e w2 => e = .returned (.tuple #[.int .i64 r, .int .i64 dd, .int .i64 0]) ∧ Keeps w' w2 from fun w' kk => by
            have hh := oshape_any ba bw 500 f bt A m cap C w' (HSt4.out.keep kk) (gt0 stay k)
            rw [hr, hdd, show (objP (atT 500 f m C (gt0 stay k))).2 = 0 by rw [hob]] at hh
            exact hh)
          have HOb := Lib.hid (And.intro hob hr)
          clear hat hob hr hdd
          go_wp2_with fail
          refine wp_region_noPanic ?_
          refine wp_region_held_drew (S := (fun w' => Keeps w4 w')) (by kernel_rfl) (Touch.refl _ w4).drew (fun hHeld => ?_)
          refine' wpAnyH_take (i := 0) ?hi0_2 ?hs0_2 ?hf0_2 ?hr0_2 ?hQ0_2 ?hy0_2 (by assumption) ?rest0_2
          case hi0_2 => simp only [List.getElem?_toArray, List.getElem?_cons_zero] <;> rfl
          case hs0_2 => kernel_rfl
          case hf0_2 => kernel_rfl
          case hr0_2 => kernel_rfl
          case hQ0_2 => exact fun _ _ _ h => h
          case hy0_2 => exact Or.inl ⟨by rfl, fun w hSw => by have q0 := cell_keep p0 hSw; have q2 := cell_keep p2 hSw; have q3 := cell_keep p3 hSw; have q6 := cell_keep d1 hSw; go_simp <;> (try with_reducible rfl)⟩
          simp only [Act.put, List.setIfInBounds_toArray, List.set_cons_zero, List.set_cons_succ]
          refine' wpAnyH_take (i := 1) ?hi1_2 ?hs1_2 ?hf1_2 ?hr1_2 ?hQ1_2 ?hy1_2 (by assumption) ?rest1_2
          case hi1_2 => simp only [List.getElem?_toArray, List.getElem?_cons_succ, List.getElem?_cons_zero] <;> rfl
          case hs1_2 => kernel_rfl
          case hf1_2 => kernel_rfl
          case hr1_2 => kernel_rfl
          case hQ1_2 => exact fun _ _ _ h => h
          case hy1_2 => exact Or.inl ⟨by rfl, fun w hSw => by have q0 := cell_keep p0 hSw; have q2 := cell_keep p2 hSw; have q3 := cell_keep p3 hSw; have q6 := cell_keep d1 hSw; go_simp <;> (try with_reducible rfl)⟩
          simp only [Act.put, List.setIfInBounds_toArray, List.set_cons_zero, List.set_cons_succ]
          refine' wpAnyH_take (i := 2) ?hi2_2 ?hs2_2 ?hf2_2 ?hr2_2 ?hQ2_2 ?hy2_2 (by assumption) ?rest2_2
          case hi2_2 => simp only [List.getElem?_toArray, List.getElem?_cons_succ, List.getElem?_cons_zero] <;> rfl
          case hs2_2 => kernel_rfl
          case hf2_2 => kernel_rfl
          case hr2_2 => kernel_rfl
          case hQ2_2 => exact fun _ _ _ h => h
          case hy2_2 => exact Or.inl ⟨by rfl, fun w hSw => by have q0 := cell_keep p0 hSw; have q2 := cell_keep p2 hSw; have q3 := cell_keep p3 hSw; have q6 := cell_keep d1 hSw; go_simp <;> (try with_reducible rfl)⟩
          simp only [Act.put, List.setIfInBounds_toArray, List.set_cons_zero, List.set_cons_succ]
          refine' wpAnyH_take (i := 3) ?hi3_2 ?hs3_2 ?hf3_2 ?hr3_2 ?hQ3_2 ?hy3_2 (by assumption) ?rest3_2
          case hi3_2 => simp only [List.getElem?_toArray, List.getElem?_cons_succ, List.getElem?_cons_zero] <;> rfl
          case hs3_2 => kernel_rfl
          case hf3_2 => kernel_rfl
          case hr3_2 => kernel_rfl
          case hQ3_2 => exact fun _ _ _ h => h
          case hy3_2 => exact Or.inl ⟨by rfl, fun w hSw => by have q0 := cell_keep p0 hSw; have q2 := cell_keep p2 hSw; have q3 := cell_keep p3 hSw; have q6 := cell_keep d1 hSw; go_simp <;> (try with_reducible rfl)⟩
          simp only [Act.put, List.setIfInBounds_toArray, List.set_cons_zero, List.set_cons_succ]
          refine' wpAnyH_take (i := 4) ?hi4_2 ?hs4_2 ?hf4_2 ?hr4_2 ?hQ4_2 ?hy4_2 (by assumption) ?rest4_2
          case hi4_2 => simp only [List.getElem?_toArray, List.getElem?_cons_succ, List.getElem?_cons_zero] <;> rfl
          case hs4_2 => kernel_rfl
          case hf4_2 => kernel_rfl
          case hr4_2 => kernel_rfl
          case hQ4_2 => exact fun _ _ _ h => h
          case hy4_2 => exact Or.inl ⟨by rfl, fun w hSw => by have q0 := cell_keep p0 hSw; have q2 := cell_keep p2 hSw; have q3 := cell_keep p3 hSw; have q6 := cell_keep d1 hSw; go_simp <;> (try with_reducible rfl)⟩
          simp only [Act.put, List.setIfInBounds_toArray, List.set_cons_zero, List.set_cons_succ]
          refine' wpAnyH_take (i := 5) ?hi5_2 ?hs5_2 ?hf5_2 ?hr5_2 ?hQ5_2 ?hy5_2 (by assumption) ?rest5_2
          case hi5_2 => simp only [List.getElem?_toArray, List.getElem?_cons_succ, List.getElem?_cons_zero] <;> rfl
          case hs5_2 => kernel_rfl
          case hf5_2 => kernel_rfl
          case hr5_2 => kernel_rfl
          case hQ5_2 => exact fun _ _ _ h => h
          case hy5_2 => exact Or.inl ⟨by rfl, fun w hSw => by have q0 := cell_keep p0 hSw; have q2 := cell_keep p2 hSw; have q3 := cell_keep p3 hSw; have q6 := cell_keep d1 hSw; go_simp <;> (try with_reducible rfl)⟩
          simp only [Act.put, List.setIfInBounds_toArray, List.set_cons_zero, List.set_cons_succ]
          refine wpAnyH_ready (rs := [6]) (by kernel_rfl) (by simp) ?_
          refine AllReadyH.cons rfl (fun K hK => ?_) AllReadyH.nil
          go_simp
          with_reducible refine Calls.mono (HShp.out _ hHeld) ?_
          rintro e w5 ⟨rfl, k5⟩
          go_wp2_with fail
          have h5 := Keeps.trans hHeld k5
          refine hK.out _ _ h5 (fun hHeld => ?_)
          clear hK K
          refine' wpAnyH_take (i := 7) ?hi7_2 ?hs7_2 ?hf7_2 ?hr7_2 ?hQ7_2 ?hy7_2 (by assumption) ?rest7_2
          case hi7_2 => simp only [List.getElem?_toArray, List.getElem?_cons_succ, List.getElem?_cons_zero] <;> rfl
          case hs7_2 => kernel_rfl
          case hf7_2 => kernel_rfl
          case hr7_2 => kernel_rfl
          case hQ7_2 => exact fun _ _ _ h => h
          case hy7_2 => exact Or.inl ⟨by rfl, fun w hSw => by go_simp <;> (try with_reducible rfl)⟩
          simp only [Act.put, List.setIfInBounds_toArray, List.set_cons_zero, List.set_cons_succ]
          refine' wpAnyH_take (i := 8) ?hi8_2 ?hs8_2 ?hf8_2 ?hr8_2 ?hQ8_2 ?hy8_2 (by assumption) ?rest8_2
          case hi8_2 => simp only [List.getElem?_toArray, List.getElem?_cons_succ, List.getElem?_cons_zero] <;> rfl
          case hs8_2 => kernel_rfl
          case hf8_2 => kernel_rfl
          case hr8_2 => kernel_rfl
          case hQ8_2 => exact fun _ _ _ h => h
          case hy8_2 => exact Or.inl ⟨by rfl, fun w hSw => by go_simp <;> (try with_reducible rfl)⟩
          simp only [Act.put, List.setIfInBounds_toArray, List.set_cons_zero, List.set_cons_succ]
          refine' wpAnyH_take (i := 9) ?hi9_2 ?hs9_2 ?hf9_2 ?hr9_2 ?hQ9_2 ?hy9_2 (by assumption) ?rest9_2
          case hi9_2 => simp only [List.getElem?_toArray, List.getElem?_cons_succ, List.getElem?_cons_zero] <;> rfl
          case hs9_2 => kernel_rfl
          case hf9_2 => kernel_rfl
          case hr9_2 => kernel_rfl
          case hQ9_2 => exact fun _ _ _ h => h
          case hy9_2 => exact Or.inl ⟨by rfl, fun w hSw => by go_simp <;> (try with_reducible rfl)⟩
          simp only [Act.put, List.setIfInBounds_toArray, List.set_cons_zero, List.set_cons_succ]
          refine' wpAnyH_take (i := 10) ?hi10_2 ?hs10_2 ?hf10_2 ?hr10_2 ?hQ10_2 ?hy10_2 (by assumption) ?rest10_2
          case hi10_2 => simp only [List.getElem?_toArray, List.getElem?_cons_succ, List.getElem?_cons_zero] <;> rfl
          case hs10_2 => kernel_rfl
          case hf10_2 => kernel_rfl
          case hr10_2 => kernel_rfl
          case hQ10_2 => exact fun _ _ _ h => h
          case hy10_2 => exact Or.inl ⟨by rfl, fun w hSw => by go_simp <;> (try with_reducible rfl)⟩
          simp only [Act.put, List.setIfInBounds_toArray, List.set_cons_zero, List.set_cons_succ]
          refine' wpAnyH_take (i := 11) ?hi11_2 ?hs11_2 ?hf11_2 ?hr11_2 ?hQ11_2 ?hy11_2 (by assumption) ?rest11_2
          case hi11_2 => simp only [List.getElem?_toArray, List.getElem?_cons_succ, List.getElem?_cons_zero] <;> rfl
          case hs11_2 => kernel_rfl
          case hf11_2 => kernel_rfl
          case hr11_2 => kernel_rfl
          case hQ11_2 => exact fun _ _ _ h => h
          case hy11_2 => exact Or.inl ⟨by rfl, fun w hSw => by go_simp <;> (try with_reducible rfl)⟩
          simp only [Act.put, List.setIfInBounds_toArray, List.set_cons_zero, List.set_cons_succ]
          refine' wpAnyH_take (i := 12) ?hi12_2 ?hs12_2 ?hf12_2 ?hr12_2 ?hQ12_2 ?hy12_2 (by assumption) ?rest12_2
          case hi12_2 => simp only [List.getElem?_toArray, List.getElem?_cons_succ, List.getElem?_cons_zero] <;> rfl
          case hs12_2 => kernel_rfl
          case hf12_2 => kernel_rfl
          case hr12_2 => kernel_rfl
          case hQ12_2 => exact fun _ _ _ h => h
          case hy12_2 => exact Or.inl ⟨by rfl, fun w hSw => by go_simp <;> (try with_reducible rfl)⟩
          simp only [Act.put, List.setIfInBounds_toArray, List.set_cons_zero, List.set_cons_succ]
          refine' wpAnyH_take (i := 13) ?hi13_2 ?hs13_2 ?hf13_2 ?hr13_2 ?hQ13_2 ?hy13_2 (by assumption) ?rest13_2
          case hi13_2 => simp only [List.getElem?_toArray, List.getElem?_cons_succ, List.getElem?_cons_zero] <;> rfl
          case hs13_2 => kernel_rfl
          case hf13_2 => kernel_rfl
          case hr13_2 => kernel_rfl
          case hQ13_2 => exact fun _ _ _ h => h
          case hy13_2 => exact Or.inl ⟨by rfl, fun w hSw => by go_simp <;> (try with_reducible rfl)⟩
          simp only [Act.put, List.setIfInBounds_toArray, List.set_cons_zero, List.set_cons_succ]
          refine wpAnyH_done (by kernel_rfl) ?_ _
          refine NoPanic.normal ?_
          have O5 : Only bw w4 w5 := Touch.only h5
          by_cases hrz : r = 0
          · subst hrz
            go_wp2_with fail
            go_ret
            exact ⟨rfl, Keeps.trans (Keeps.trans K3 k4) h5⟩
          · have hrb : (r == 0) = false := by simpa using hrz
            have hrn : ¬ (r = 0) := hrz
            obtain ⟨q, hq⟩ : ∃ q, ka % r = q := ⟨_, rfl⟩
            have hqt : ka.tmod r = q := by rw [Int.tmod_eq_emod_of_nonneg hka.1]; exact hq
            have hq0 : 0 ≤ q ∧ q < r := by rw [← hq]; exact ⟨Int.emod_nonneg _ hrn, Int.emod_lt_of_pos _ (by omega)⟩
            have HRef := Lib.hid (show ∀ w', Keeps w5 w' → Calls Try.prog 12 #[.agg #[.pointer (some ⟨ba, 0, none⟩), .pointer (some ⟨bt, 0, none⟩)], .int .i64 (gt0 stay k), .int .i64 q, .int .i64 499] w' fun e w2 => e = .returned (.int .i64 0) ∧ St w2 ba bw 500 (putF f (refAt (gt0 stay k) q).toNat 499) bt A m cap C ∧ Only bw w' w2 from fun w' kk =>
              setref_yes ba bw 500 f bt A m cap C w' (HSt4.out.keep (Keeps.trans h5 kk)) (gt0 stay k) q 499 (slE_zero.2 ⟨by rw [HOb.out.1], hq0.1, by rw [HOb.out.2]; exact hq0.2⟩))
            have p0 := cell_keep p0 h5
            have p2 := cell_keep p2 h5
            have p3 := cell_keep p3 h5
            have d1 := cell_keep d1 h5
            clear hq HShp
            go_wp2_with fail
            refine wp_region_noPanic ?_
            refine wp_region_held_drew (S := (fun w' => Only bw w5 w')) (by kernel_rfl) (Only.refl _ w5).drew (fun hHeld => ?_)
            refine' wpAnyH_take (i := 0) ?hi0_3 ?hs0_3 ?hf0_3 ?hr0_3 ?hQ0_3 ?hy0_3 (by assumption) ?rest0_3
            case hi0_3 => simp only [List.getElem?_toArray, List.getElem?_cons_zero] <;> rfl
            case hs0_3 => kernel_rfl
            case hf0_3 => kernel_rfl
            case hr0_3 => kernel_rfl
            case hQ0_3 => exact fun _ _ _ h => h
            case hy0_3 => exact Or.inl ⟨by rfl, fun w hSw => by have q0 := cell_only p0 hSw nX; have q2 := cell_only p2 hSw nX; have q3 := cell_only p3 hSw nX; have q6 := cell_only d1 hSw nD; go_simp <;> (try with_reducible rfl)⟩
            simp only [Act.put, List.setIfInBounds_toArray, List.set_cons_zero, List.set_cons_succ]
            refine' wpAnyH_take (i := 1) ?hi1_3 ?hs1_3 ?hf1_3 ?hr1_3 ?hQ1_3 ?hy1_3 (by assumption) ?rest1_3
            case hi1_3 => simp only [List.getElem?_toArray, List.getElem?_cons_succ, List.getElem?_cons_zero] <;> rfl
            case hs1_3 => kernel_rfl
            case hf1_3 => kernel_rfl
            case hr1_3 => kernel_rfl
            case hQ1_3 => exact fun _ _ _ h => h
            case hy1_3 => exact Or.inl ⟨by rfl, fun w hSw => by have q0 := cell_only p0 hSw nX; have q2 := cell_only p2 hSw nX; have q3 := cell_only p3 hSw nX; have q6 := cell_only d1 hSw nD; go_simp <;> (try with_reducible rfl)⟩
            simp only [Act.put, List.setIfInBounds_toArray, List.set_cons_zero, List.set_cons_succ]
            refine' wpAnyH_take (i := 2) ?hi2_3 ?hs2_3 ?hf2_3 ?hr2_3 ?hQ2_3 ?hy2_3 (by assumption) ?rest2_3
            case hi2_3 => simp only [List.getElem?_toArray, List.getElem?_cons_succ, List.getElem?_cons_zero] <;> rfl
            case hs2_3 => kernel_rfl
            case hf2_3 => kernel_rfl
            case hr2_3 => kernel_rfl
            case hQ2_3 => exact fun _ _ _ h => h
            case hy2_3 => exact Or.inl ⟨by rfl, fun w hSw => by have q0 := cell_only p0 hSw nX; have q2 := cell_only p2 hSw nX; have q3 := cell_only p3 hSw nX; have q6 := cell_only d1 hSw nD; go_simp <;> (try with_reducible rfl)⟩
            simp only [Act.put, List.setIfInBounds_toArray, List.set_cons_zero, List.set_cons_succ]
            refine' wpAnyH_take (i := 3) ?hi3_3 ?hs3_3 ?hf3_3 ?hr3_3 ?hQ3_3 ?hy3_3 (by assumption) ?rest3_3
            case hi3_3 => simp only [List.getElem?_toArray, List.getElem?_cons_succ, List.getElem?_cons_zero] <;> rfl
            case hs3_3 => kernel_rfl
            case hf3_3 => kernel_rfl
            case hr3_3 => kernel_rfl
            case hQ3_3 => exact fun _ _ _ h => h
            case hy3_3 => exact Or.inl ⟨by rfl, fun w hSw => by have q0 := cell_only p0 hSw nX; have q2 := cell_only p2 hSw nX; have q3 := cell_only p3 hSw nX; have q6 := cell_only d1 hSw nD; go_simp <;> (try with_reducible rfl)⟩
            simp only [Act.put, List.setIfInBounds_toArray, List.set_cons_zero, List.set_cons_succ]
            refine' wpAnyH_take (i := 4) ?hi4_3 ?hs4_3 ?hf4_3 ?hr4_3 ?hQ4_3 ?hy4_3 (by assumption) ?rest4_3
            case hi4_3 => simp only [List.getElem?_toArray, List.getElem?_cons_succ, List.getElem?_cons_zero] <;> rfl
            case hs4_3 => kernel_rfl
            case hf4_3 => kernel_rfl
            case hr4_3 => kernel_rfl
            case hQ4_3 => exact fun _ _ _ h => h
            case hy4_3 => exact Or.inl ⟨by rfl, fun w hSw => by have q0 := cell_only p0 hSw nX; have q2 := cell_only p2 hSw nX; have q3 := cell_only p3 hSw nX; have q6 := cell_only d1 hSw nD; go_simp <;> (try with_reducible rfl)⟩
            simp only [Act.put, List.setIfInBounds_toArray, List.set_cons_zero, List.set_cons_succ]
            refine' wpAnyH_take (i := 5) ?hi5_3 ?hs5_3 ?hf5_3 ?hr5_3 ?hQ5_3 ?hy5_3 (by assumption) ?rest5_3
            case hi5_3 => simp only [List.getElem?_toArray, List.getElem?_cons_succ, List.getElem?_cons_zero] <;> rfl
            case hs5_3 => kernel_rfl
            case hf5_3 => kernel_rfl
            case hr5_3 => kernel_rfl
            case hQ5_3 => exact fun _ _ _ h => h
            case hy5_3 => exact Or.inl ⟨by rfl, fun w hSw => by have q0 := cell_only p0 hSw nX; have q2 := cell_only p2 hSw nX; have q3 := cell_only p3 hSw nX; have q6 := cell_only d1 hSw nD; go_simp <;> (try with_reducible rfl)⟩
            simp only [Act.put, List.setIfInBounds_toArray, List.set_cons_zero, List.set_cons_succ]
            refine' wpAnyH_take (i := 6) ?hi6_3 ?hs6_3 ?hf6_3 ?hr6_3 ?hQ6_3 ?hy6_3 (by assumption) ?rest6_3
            case hi6_3 => simp only [List.getElem?_toArray, List.getElem?_cons_succ, List.getElem?_cons_zero] <;> rfl
            case hs6_3 => kernel_rfl
            case hf6_3 => kernel_rfl
            case hr6_3 => kernel_rfl
            case hQ6_3 => exact fun _ _ _ h => h
            case hy6_3 => exact Or.inl ⟨by rfl, fun w hSw => by have q0 := cell_only p0 hSw nX; have q2 := cell_only p2 hSw nX; have q3 := cell_only p3 hSw nX; have q6 := cell_only d1 hSw nD; go_simp <;> (try with_reducible rfl)⟩
            simp only [Act.put, List.setIfInBounds_toArray, List.set_cons_zero, List.set_cons_succ]
            refine' wpAnyH_take (i := 7) ?hi7_3 ?hs7_3 ?hf7_3 ?hr7_3 ?hQ7_3 ?hy7_3 (by assumption) ?rest7_3
            case hi7_3 => simp only [List.getElem?_toArray, List.getElem?_cons_succ, List.getElem?_cons_zero] <;> rfl
            case hs7_3 => kernel_rfl
            case hf7_3 => kernel_rfl
            case hr7_3 => kernel_rfl
            case hQ7_3 => exact fun _ _ _ h => h
            case hy7_3 => exact Or.inl ⟨by rfl, fun w hSw => by have q0 := cell_only p0 hSw nX; have q2 := cell_only p2 hSw nX; have q3 := cell_only p3 hSw nX; have q6 := cell_only d1 hSw nD; go_simp <;> (try with_reducible rfl)⟩
            simp only [Act.put, List.setIfInBounds_toArray, List.set_cons_zero, List.set_cons_succ]
            refine' wpAnyH_take (i := 8) ?hi8_3 ?hs8_3 ?hf8_3 ?hr8_3 ?hQ8_3 ?hy8_3 (by assumption) ?rest8_3
            case hi8_3 => simp only [List.getElem?_toArray, List.getElem?_cons_succ, List.getElem?_cons_zero] <;> rfl
            case hs8_3 => kernel_rfl
            case hf8_3 => kernel_rfl
            case hr8_3 => kernel_rfl
            case hQ8_3 => exact fun _ _ _ h => h
            case hy8_3 => exact Or.inl ⟨by rfl, fun w hSw => by have q0 := cell_only p0 hSw nX; have q2 := cell_only p2 hSw nX; have q3 := cell_only p3 hSw nX; have q6 := cell_only d1 hSw nD; go_simp <;> (try with_reducible rfl)⟩
            simp only [Act.put, List.setIfInBounds_toArray, List.set_cons_zero, List.set_cons_succ]
            refine' wpAnyH_take (i := 9) ?hi9_3 ?hs9_3 ?hf9_3 ?hr9_3 ?hQ9_3 ?hy9_3 (by assumption) ?rest9_3
            case hi9_3 => simp only [List.getElem?_toArray, List.getElem?_cons_succ, List.getElem?_cons_zero] <;> rfl
            case hs9_3 => kernel_rfl
            case hf9_3 => kernel_rfl
            case hr9_3 => kernel_rfl
            case hQ9_3 => exact fun _ _ _ h => h
            case hy9_3 => exact Or.inl ⟨by rfl, fun w hSw => by have q0 := cell_only p0 hSw nX; have q2 := cell_only p2 hSw nX; have q3 := cell_only p3 hSw nX; have q6 := cell_only d1 hSw nD; go_simp <;> (try with_reducible rfl)⟩
            simp only [Act.put, List.setIfInBounds_toArray, List.set_cons_zero, List.set_cons_succ]
            refine wpAnyH_ready (rs := [10]) (by kernel_rfl) (by simp) ?_
            refine AllReadyH.cons rfl (fun K hK => ?_) AllReadyH.nil
            go_simp
            with_reducible refine Calls.mono (HRef.out _ (Touch.drew (Touch.refl (fun _ => False) w5))) ?_
            rintro e w6 ⟨rfl, hS6, o6⟩
            go_wp2_with fail
            have h6 := hHeld.trans_ o6
            refine hK.out _ _ h6 (fun hHeld => ?_)
            clear hK K
            refine wpAnyH_done (by kernel_rfl) ?_ _
            refine NoPanic.normal ?_
            go_wp2_with fail
            go_meet
            have O6 : Only bw w4 w6 := Touch.trans O5 h6 (fun x hx _ => hx)
            refine ⟨_, L, stay, roots, 12, ⟨hS6, i64_putF HPl.out.1.i64 (i64_small (by decide) (by decide)), HSp0.out w6 (O6.mono (fun kk e _ => .inr e)), HTt.out, HOs.out.touch O6 (fun kk e h => by have := (HOs.out.lt kk e).1; omega), by omega, HI64.out, HOr.out.touch O6 (fun kk e h => by have := (HOr.out.lt kk e).1; omega), by omega, HR64.out, .inr ⟨rfl, HPre.out, ?_⟩, Touch.trans (Touch.only k4) O6 (fun x hx _ => hx)⟩, rfl⟩
            exact ref_lost HC.out HPl.out.1 HPl.out.2 hkl hq0.1 (by rw [HOb.out.2]; exact hq0.2) roots.length (gt0 roots)
      case rest =>
      obtain ⟨w5, rfl⟩ : ∃ w5 : World, w5 = wc := ⟨_, rfl⟩
      obtain ⟨f', L', st', ro', E, hfin, rfl⟩ := hcut
      have B5 := B3.touch hfin.keep (show ¬ w2.heap.size = bw by omega)
      have p0 := B5.c 0 _ rfl
      have p1 := B5.c 1 _ rfl
      have K5 := K3.new hfin.keep (by omega)
      have z5 := hfin.keep.size
      obtain ⟨ad, cp, rfl, hsp5⟩ := hfin.sp
      obtain ⟨sa5, sc5, rfl, _, hst5, hsl5⟩ := hfin.os.cap
      obtain ⟨ra5, rc5, rfl, _, hro5, hrl5⟩ := hfin.or_.cap
      have HWd := Lib.hid (show ∀ w', Keeps w5 w' → Calls Try.prog 13 #[.pointer (some ⟨ba, 0, none⟩), .int .i64 0, .int .i64 500] w' fun e w2 => ∃ v, e = .returned (.tuple #[v, .int .i64 0]) ∧ OwnInts w2 w'.heap.size v ((List.range 500).map fun j => f' (0 + j)) ∧ Keeps w' w2 from fun w' kk => words_yes ba bw 500 f' w' (hfin.st.keep kk).ar 0 500 (by omega) (by omega) (by omega))
      have HRun := Lib.hid (show ∀ w', Keeps w5 w' → Calls Try.prog 14 #[.pointer (some ⟨ba, 0, none⟩), .pointer (some ⟨bt, 0, none⟩), .slice ad 3 cp, .slice sa5 st'.length sc5, .slice ra5 ro'.length rc5] w' fun e w2 => e = .returned (.tuple #[.slice none 0 0, .slice none 0 0, .int .i64 E]) ∧ Keeps w' w2 from fun w' kk => by
        refine Calls.mono (run_any ba bw 500 f' bt A m cap C w' (hfin.st.keep kk) hfin.i64 ad 3 cp L' (hsp5.keep kk) hfin.tt (by omega) sa5 st'.length sc5 (gt0 st') (hst5.keep kk) (fun i hi => hfin.oi _ (gt0_mem hi)) (by have := hfin.ol; omega) (fun e => by subst e; exact hfin.os.nilv) (fun b off e => by have := hsl5 b off e; omega) ra5 ro'.length rc5 (gt0 ro') (hro5.keep kk) (fun i hi => hfin.ri _ (gt0_mem hi)) (by have := hfin.rl; omega) (fun b off e => by have := hrl5 b off e; omega)) ?_
        rintro e w2 (⟨hg, _⟩ | ⟨_, x, rfl, hx, k2⟩)
        · exfalso
          rcases hfin.no with ⟨_, h⟩ | ⟨_, _, h⟩
          · exact h hg.pre
          · exact h hg
        · have hxE : x = E := by
            rcases hfin.no with ⟨h1, h2⟩ | ⟨h1, h2, _⟩
            · rcases hx with ⟨h3, _⟩ | ⟨_, h3⟩
              · rw [h1, h3]
              · exact absurd h3 h2
            · rcases hx with ⟨_, h3⟩ | ⟨h3, _⟩
              · exact absurd h2 h3
              · rw [h1, h3]
          subst hxE
          exact ⟨rfl, k2⟩)
      clear hfin hsp5 hst5 hsl5 hro5 hrl5 HSp HOs HOr HSt4 HPl HPre HI64 HR64 HA12 HA13 HA23 HSp0 HTt HRo HC p2 p3 d1 hsb HSt HSf B4
      go_wp2_with fail
      refine Calls.mono (HWd.out _ (Touch.refl _ _)) ?_
      rintro e w6 ⟨va, rfl, hoa, k6⟩
      have B6 := B5.keep k6
      have p0 := B6.c 0 _ rfl
      have p1 := B6.c 1 _ rfl
      have HOa := Lib.hid hoa
      clear hoa
      go_wp2_with fail
      refine Calls.mono (HRun.out _ k6) ?_
      clear HRun
      rintro e w7 ⟨rfl, k7⟩
      have B7 := B6.keep k7
      have p0 := B7.c 0 _ rfl
      clear p1
      go_wp2_with fail
      refine Calls.mono (HWd.out _ (Keeps.trans k6 k7)) ?_
      clear HWd
      rintro e w8 ⟨vb, rfl, hob, k8⟩
      obtain ⟨xa, xc, hx, _, g1, _⟩ := (HOa.out.keep (Keeps.trans k7 k8)).cap
      obtain ⟨ya, yc, hy, _, g2, _⟩ := hob.cap
      have hl1 : ((List.range 500).map fun j => f' (0 + j)).length = 500 := by simp
      rw [hl1] at g1 g2 hx hy
      have HSa := Lib.hid (same_any xa ya 500 500 xc yc _ _ w8 g1 g2 (by omega) (by omega))
      rw [sameB_true (fun i hi => rfl)] at HSa
      subst hx
      subst hy
      clear hob HOa g1 g2 hl1
      go_wp2_with fail
      refine Calls.mono HSa.out ?_
      rintro e w9 ⟨rfl, k9⟩
      go_wp2_with fail
      go_ret
      exact ⟨rfl, Keeps.trans (Keeps.trans (Keeps.trans (Keeps.trans K5 k6) k7) k8) k9⟩

end Go.Proofs.Ytkjgfblkbjlohaa
