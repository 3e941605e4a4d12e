/- Layer 15: roots that were alike are alike, unlike ones unlike; old ones stay; with one root more nothing less goes on. -/
import Derived.Test.YtabfbgkablbeeaaG44
import Derived.Test.YtabfbgkablbeeaaRootP
import Derived.Test.YtabfbgkablbeeaaByP
import Derived.BigQuiet
set_option linter.all false

namespace Go.Proofs.Ytabfbgkablbeeaa
open Go.RowKit

theorem rd_oneb (w : World) (N : Nat) (x : Int) (hN : w.heap.size = N) : Rd (w.alloc (.cells #[.int .u8 x] 5)) (some ⟨N, 0, none⟩) 1 (intF .u8 fun _ => x) := fun _ =>
  ⟨N, 0, rfl, by simp [hN], fun j hj => by
    have : j = 0 := by omega
    subst this
    exact cell_new w (.int .u8 x) 5 N hN⟩
theorem Made.low {w w' w2 : World} {xb ba bw bt : Nat} {A : Option Addr} {m cap : Nat} {C : Nat → Cl} {av rov : Value} {tb mb vb : Nat} {s : Lw} {rl : List Int} {D : Nat → Bool} {base : Nat} {S : Nat → Prop}
    (H : Made w w' xb ba bw bt A m cap C av rov tb mb vb s rl D base) (t : Touch S w' w2) (hS : ∀ kk, S kk → kk < w.heap.size) : Made w w2 xb ba bw bt A m cap C av rov tb mb vb s rl D base := by
  have p := H.pl.lo
  have q := H.pl.hi
  have l1 := H.at_.lt
  have l2 := H.roots.lt
  exact ⟨H.pl, H.st.touch t (fun e => by have := hS _ e; omega) (fun e => by have := hS _ e; omega) (fun e => by have := hS _ e; omega) (fun b off e e2 => by have := hS _ e2; have := H.pl.A b off e; omega),
    H.at_.touch t (fun kk e e2 => by have := hS _ e2; have := l1 kk e; omega), H.roots.touch t (fun kk e e2 => by have := hS _ e2; have := l2 kk e; omega), H.cd.touch t (fun e => by have := hS _ e; omega) (fun e => by have := hS _ e; omega) (fun e => by have := hS _ e; omega), H.dirty, by have := t.size; have := H.z; omega⟩
/-- A life in a variable, if there is one. -/
def LifeAt (w0 wr : World) (b : Nat) (Ac : Option Addr) (m cc : Nat) (C : Nat → Cl) (nt : Nat) (T : Nat → Tg) (nr : Nat) (R : Nat → Int) (nz : Nat) (Z : Nat → Int) (s0 s1 : Int) (ok : Bool) : Prop :=
  ok = true → ∃ xb ba bw bt A cap aa ac ra rc tb mb vb D base an y thr, an = (wd15 m C nt T nr R s0).at_.length ∧ y = (wd15 m C nt T nr R s0).sp (beg15 (s0 % 101)) (end15 (s0 % 101)) ∧ thr = s1 % 8 ∧ base ≤ b ∧
    BL wr b 42 [.pointer (some ⟨ba, 0, none⟩), .pointer (some ⟨bt, 0, none⟩), .pointer (some ⟨ba, 0, none⟩), .pointer (some ⟨bt, 0, none⟩), .int .i64 (y 0).f, .int .i64 (y 0).t, .int .i64 (y 0).e, .int .i64 (y 1).f, .int .i64 (y 1).t, .int .i64 (y 1).e, .int .i64 (y 2).f, .int .i64 (y 2).t, .int .i64 (y 2).e, .int .i64 (y 3).f, .int .i64 (y 3).t, .int .i64 (y 3).e, .int .i64 thr, .slice aa an ac, .slice ra nz rc, .pointer (some ⟨tb, 0, none⟩), .slice Ac m cc] ∧ Made w0 wr xb ba bw bt A m cap C (.slice aa an ac) (.slice ra nz rc) tb mb vb (wd15 m C nt T nr R s0) (rootsN (wd15 m C nt T nr R s0) Z nz) D base ∧ Good15 m C nt nr nz
set_option maxRecDepth 100000 in
set_option maxHeartbeats 8000000 in
theorem roots_walk (w : World) (Ac : Option Addr) (m cc : Nat) (C : Nat → Cl) (Th : Option Addr) (nt tc : Nat) (T : Nat → Tg) (Rf : Option Addr) (nr rc : Nat) (R : Nat → Int) (Ro : Option Addr) (nz zc : Nat) (Z : Nat → Int) (s0 s1 : Int) (more : Int) (hmo : 0 ≤ more ∧ more ≤ 255) (hz47 : nz ≤ 140737488351232) (h : WArg w Ac m cc C Th nt T Rf nr R Ro nz Z s0 s1) :
    Calls Try.prog 4 #[.agg #[.slice Ac m cc, .slice Th nt tc, .slice Rf nr rc, .slice Ro nz zc, .int .u8 s0, .int .u8 s1], .int .u8 more] w fun e w' => e = .returned (.bool true) ∧ Keeps w w' := by
  have HMd := Lib.hid (show ∀ w', Keeps w w' → Calls Try.prog 6 #[.agg #[.slice Ac m cc, .slice Th nt tc, .slice Rf nr rc, .slice Ro nz zc, .int .u8 s0, .int .u8 s1]] w' (MadeOut w' Ac m cc C nt T nr R nz Z s0 s1) from fun w' k => made_any w' Ac m cc C Th nt tc T Rf nr rc R Ro nz zc Z s0 s1 (h.keep k))
  have hzl := zero_life
  have hzy := zero_young
  have HAw := Lib.hid awake_any
  have HA := Lib.hid h
  clear h
  go_enter Try.func4, Try.ntmps4
  go_upto_region 1 with fail
  refine named_code (fun w1 hW1 => ?_)
  have K1 : Keeps w w1 := by rw [hW1]; exact (Touch.refl _ w).alloc _
  have BW : BL w1 w.heap.size 27 [.slice Ac m cc, .slice Th nt tc, .slice Rf nr rc, .slice Ro nz zc, .int .u8 s0, .int .u8 s1] := by rw [hW1]; exact BL.new1 w _ _ [.slice Ac m cc, .slice Th nt tc, .slice Rf nr rc, .slice Ro nz zc, .int .u8 s0, .int .u8 s1] _ rfl rfl
  have z1 : w1.heap.size = w.heap.size + 1 := by rw [hW1]; simp
  clear hW1
  have c0 := BW.c 0 _ rfl
  have c1 := BW.c 1 _ rfl
  have c2 := BW.c 2 _ rfl
  have c3 := BW.c 3 _ rfl
  have c4 := BW.c 4 _ rfl
  have c5 := BW.c 5 _ rfl
  go_cut [5, 6] from 19 to 22 (fun v5 v6 wx => ∃ (bL : Nat) (ok : Bool), v5 = .pointer (some ⟨bL, 0, none⟩) ∧ v6 = .bool ok ∧ w1.heap.size ≤ bL ∧ bL < wx.heap.size ∧ LifeAt w1 wx bL Ac m cc C nt T nr R nz Z s0 s1 ok ∧ Keeps w1 wx)
  case first =>
    go_wp2_with fail
    refine Calls.mono (HMd.out w1 K1) ?_
    rintro e wm (⟨_, rfl, km⟩ | ⟨xb, ba, bw, bt, A, cap, av, rov, tb, mb, vb, D, base, rfl, hM, hG, km⟩)
    · have zm := km.size
      go_wp2_with (first | (refine store_bl ?_ 42 (.tmp 5) (.tmp 21) ?_ (BL.new1 wm 42 _ [.pointer none, .pointer none, .pointer none, .pointer none, .int .i64 0, .int .i64 0, .int .i64 0, .int .i64 0, .int .i64 0, .int .i64 0, .int .i64 0, .int .i64 0, .int .i64 0, .int .i64 0, .int .i64 0, .int .i64 0, .int .i64 0, .slice none 0 0, .slice none 0 0, .pointer none, .slice none 0 0] wm.heap.size rfl rfl) ?_ [.pointer none, .pointer none, .pointer none, .pointer none, .int .i64 0, .int .i64 0, .int .i64 0, .int .i64 0, .int .i64 0, .int .i64 0, .int .i64 0, .int .i64 0, .int .i64 0, .int .i64 0, .int .i64 0, .int .i64 0, .int .i64 0, .slice none 0 0, .slice none 0 0, .pointer none, .slice none 0 0] ?_ sz_life rfl rfl ?_; rfl; rfl; rfl; rfl; intro wX BX kBX; skip))
      go_meet
      exact ⟨wm.heap.size, false, rfl, rfl, zm, BX.lt, fun h => (by cases h), Touch.new (Touch.alloc km _) kBX zm⟩
    · obtain ⟨ra, rc, hrv⟩ := hM.roots.form
      obtain ⟨aa, ac, hav⟩ := hM.at_.form
      obtain ⟨rn, hrn⟩ : ∃ rn : Nat, rn = nz := ⟨_, rfl⟩
      have hrl : (rootsN (wd15 m C nt T nr R s0) Z nz).length = rn := by rw [hrn]; simp [rootsN]
      rw [hrl] at hrv
      obtain ⟨an, han⟩ : ∃ an, an = (wd15 m C nt T nr R s0).at_.length := ⟨_, rfl⟩
      rw [← han] at hav
      subst hav
      subst hrv
      obtain ⟨y, hy⟩ : ∃ y, y = (wd15 m C nt T nr R s0).sp (beg15 (s0 % 101)) (end15 (s0 % 101)) := ⟨_, rfl⟩
      obtain ⟨thr, hthr⟩ : ∃ thr, thr = s1 % 8 := ⟨_, rfl⟩
      rw [← hy, ← hthr]
      have HM := Lib.hid hM
      have HG := Lib.hid hG
      have HY := Lib.hid hy
      have HT := Lib.hid hthr
      have HAn := Lib.hid han
      have HRn := Lib.hid hrn
      have zm := km.size
      clear hM hG hy hthr han hrl hrn
      unfold lifeV
      go_wp2_with (first | (refine store_bl ?_ 42 (.tmp 5) (.tmp 21) ?_ (BL.new1 wm 42 _ [.pointer none, .pointer none, .pointer none, .pointer none, .int .i64 0, .int .i64 0, .int .i64 0, .int .i64 0, .int .i64 0, .int .i64 0, .int .i64 0, .int .i64 0, .int .i64 0, .int .i64 0, .int .i64 0, .int .i64 0, .int .i64 0, .slice none 0 0, .slice none 0 0, .pointer none, .slice none 0 0] wm.heap.size rfl rfl) ?_ [.pointer (some ⟨ba, 0, none⟩), .pointer (some ⟨bt, 0, none⟩), .pointer (some ⟨ba, 0, none⟩), .pointer (some ⟨bt, 0, none⟩), .int .i64 (y 0).f, .int .i64 (y 0).t, .int .i64 (y 0).e, .int .i64 (y 1).f, .int .i64 (y 1).t, .int .i64 (y 1).e, .int .i64 (y 2).f, .int .i64 (y 2).t, .int .i64 (y 2).e, .int .i64 (y 3).f, .int .i64 (y 3).t, .int .i64 (y 3).e, .int .i64 thr, .slice aa an ac, .slice ra rn rc, .pointer (some ⟨tb, 0, none⟩), .slice Ac m cc] ?_ sz_life rfl rfl ?_; rfl; rfl; rfl; rfl; intro wX BX kBX; skip))
      go_meet
      have hMX := HM.out.keep (Touch.new ((Touch.refl _ wm).alloc _) kBX (Nat.le_refl _))
      have hern := HRn.out
      subst hern
      exact ⟨wm.heap.size, true, rfl, rfl, zm, BX.lt, fun _ => ⟨xb, ba, bw, bt, A, cap, aa, ac, ra, rc, tb, mb, vb, D, base, an, y, thr, HAn.out, HY.out, HT.out, HM.out.z, BX, hMX, HG.out⟩, Touch.new (Touch.alloc km _) kBX zm⟩
  case rest =>
  obtain ⟨w2, rfl⟩ : ∃ w2 : World, w2 = wc := ⟨_, rfl⟩
  obtain ⟨b5, ok1, rfl, rfl, hb5, hb5l, hL1, k2⟩ := hcut
  have K2 := Keeps.trans K1 k2
  have BW2 := BW.keep k2
  have HL1 := Lib.hid hL1
  have z2 := k2.size
  have c0 := BW2.c 0 _ rfl
  have c1 := BW2.c 1 _ rfl
  have c2 := BW2.c 2 _ rfl
  have c3 := BW2.c 3 _ rfl
  have c4 := BW2.c 4 _ rfl
  have c5 := BW2.c 5 _ rfl
  have lw2 := BW2.lt
  obtain ⟨Z2, hZ2⟩ : ∃ Z2 : Nat → Int, Z2 = fun j => if j < nz then Z j else more := ⟨_, rfl⟩
  have HZ2 := Lib.hid hZ2
  have hlZ : ((List.range nz).map Z).length = nz := by simp
  have hlZ2 : ((List.range nz).map Z ++ (List.range 1).map (fun _ => more)).length = nz + 1 := by simp
  clear hL1 BW K1 k2 HMd hZ2
  go_upto_region 3 with fail
  refine named_code (fun W3 hW3 => ?_)
  have k3 : Keeps w2 W3 := by rw [hW3]; exact (Touch.refl _ w2).alloc _
  have B7 : BL W3 w2.heap.size 27 [.slice Ac m cc, .slice Th nt tc, .slice Rf nr rc, .slice Ro nz zc, .int .u8 s0, .int .u8 s1] := by rw [hW3]; exact BL.new1 w2 _ _ [.slice Ac m cc, .slice Th nt tc, .slice Rf nr rc, .slice Ro nz zc, .int .u8 s0, .int .u8 s1] _ rfl rfl
  have z3 : w2.heap.size < W3.heap.size := by rw [hW3]; simp
  have K3 := Keeps.trans K2 k3
  clear hW3 c0 c1 c2 c3 c4 c5
  have c3 := (BW2.keep k3).c 3 _ rfl
  have lw3 : w.heap.size < W3.heap.size := by omega
  go_cut [] from 24 to 31 (fun wx => ∃ (ro : Option Addr) (rc2 : Nat), BL wx w2.heap.size 27 [.slice Ac m cc, .slice Th nt tc, .slice Rf nr rc, .slice ro (nz + 1) rc2, .int .u8 s0, .int .u8 s1] ∧ Rd wx ro (nz + 1) (intF .u8 Z2) ∧ Keeps w2 wx)
  case first =>
    go_wp2_with (first | (at_builtin; refine app_bytes ?_ (.tmp 24) (.tmp 26) ?_ W3.heap.size (.slice (some ⟨W3.heap.size, 0, none⟩) 0 0) [] (ownb_new W3 W3.heap.size rfl) ?_ Ro nz zc Z ?_ (HA.out.roots.keep (Touch.alloc K3 _)) (by simp; omega) (by simp) ?_; rfl; rfl; rfl; rfl; intro v1 w4 hown1 hgr1; obtain ⟨a1, cp1, hv1⟩ := hown1.form; rw [List.nil_append, hlZ] at hv1; rw [List.nil_append] at hown1; subst hv1; have k4 : Keeps W3 w4 := Touch.grown (Touch.alloc (Touch.refl _ W3) _) hgr1 (fun kk e hlt => by have e2 : W3.heap.size = kk := Option.some.inj e; omega); have B74 := BL.grown (BL.alloc B7 _) hgr1 (fun e => by have e2 : W3.heap.size = w2.heap.size := Option.some.inj e; omega); have HO1 := Lib.hid hown1; have z4 := k4.size; have hlo1 := hown1.lt; clear hgr1 hown1) | (at_builtin; refine app_bytes ?_ (.tmp 27) (.tmp 29) ?_ W3.heap.size (.slice a1 nz cp1) ((List.range nz).map Z) (HO1.out.alloc _) ?_ (some ⟨w4.heap.size, 0, none⟩) 1 1 (fun _ => more) ?_ (rd_oneb w4 w4.heap.size more rfl) (by simp; omega) (by simp; omega) ?_; rfl; rfl; rfl; rfl; intro v2 w5 hown2 hgr2; obtain ⟨a2, cp2, hv2⟩ := hown2.form; rw [hlZ2] at hv2; subst hv2; have k5 : Keeps W3 w5 := Touch.grown (Touch.alloc k4 _) hgr2 (fun kk e hlt => by have := (hlo1 kk e).1; omega); have B75 := BL.grown (BL.alloc B74 _) hgr2 (fun e => by have := (hlo1 _ e).1; omega); have c7 := B75.c 3 _ rfl; have f7 := B75.fz 3; have HO2 := Lib.hid hown2; have z5 := k5.size; clear hgr2 hown2))
    go_meet
    refine ⟨a2, cp2, BL.set B75 3 (.slice a2 (nz + 1) cp2), ?_, Touch.new (Keeps.trans k3 k5) (Touch.set (Only.refl w2.heap.size w5) 3 _) (Nat.le_refl _)⟩
    have hR2 := OwnB.rd hlZ2 (HO2.out.touch (Touch.set (Only.refl w2.heap.size w5) 3 (.slice a2 (nz + 1) cp2)) (fun kk e h => by have := (HO2.out.lt kk e).1; have h2 : kk = w2.heap.size := h; omega))
    refine hR2.congr (fun j hj => ?_)
    unfold intF
    rw [HZ2.out]
    dsimp only
    rw [List.getD_eq_getElem?_getD]
    by_cases e : j < nz
    · rw [if_pos e, List.getElem?_append_left (by rw [hlZ]; exact e), List.getElem?_map, List.getElem?_range e]; rfl
    · rw [if_neg e, List.getElem?_append_right (by rw [hlZ]; omega), hlZ, show j - nz = 0 by omega]; rfl
  case rest =>
  obtain ⟨w6, rfl⟩ : ∃ w6 : World, w6 = wc := ⟨_, rfl⟩
  clear B7 c3
  obtain ⟨ro, rc2, B7, hRd7, k6⟩ := hcut
  have K6 := Keeps.trans K2 k6
  have HWA2 := Lib.hid (show WArg w6 Ac m cc C Th nt T Rf nr R ro (nz + 1) Z2 s0 s1 from ⟨HA.out.cls.keep K6, HA.out.cn, HA.out.cl, HA.out.ths.keep K6, HA.out.thok, HA.out.tl, HA.out.refs.keep K6, HA.out.rok, HA.out.rl, hRd7, fun i hi => by
    rw [HZ2.out]
    dsimp only
    split
    · exact HA.out.zok i (by omega)
    · exact hmo, by omega, HA.out.s0, HA.out.s1⟩)
  have HK6 := Lib.hid k6
  have z6 := k6.size
  have c0 := B7.c 0 _ rfl
  have c1 := B7.c 1 _ rfl
  have c2 := B7.c 2 _ rfl
  have c3 := B7.c 3 _ rfl
  have c4 := B7.c 4 _ rfl
  have c5 := B7.c 5 _ rfl
  clear BW2 hlZ hlZ2 hRd7 k6 k3
  go_upto_region 4 with fail
  go_cut [8, 9] from 33 to 36 (fun v8 v9 wx => ∃ (bL : Nat) (ok : Bool), v8 = .pointer (some ⟨bL, 0, none⟩) ∧ v9 = .bool ok ∧ w6.heap.size ≤ bL ∧ bL < wx.heap.size ∧ LifeAt w6 wx bL Ac m cc C nt T nr R (nz + 1) Z2 s0 s1 ok ∧ Keeps w6 wx)
  case first =>
    go_wp2_with fail
    refine Calls.mono (made_any w6 Ac m cc C Th nt tc T Rf nr rc R ro (nz + 1) rc2 Z2 s0 s1 HWA2.out) ?_
    rintro e wm (⟨_, rfl, km⟩ | ⟨xb, ba, bw, bt, A, cap, av, rov, tb, mb, vb, D, base, rfl, hM, hG, km⟩)
    · have zm := km.size
      go_wp2_with (first | (refine store_bl ?_ 42 (.tmp 8) (.tmp 35) ?_ (BL.new1 wm 42 _ [.pointer none, .pointer none, .pointer none, .pointer none, .int .i64 0, .int .i64 0, .int .i64 0, .int .i64 0, .int .i64 0, .int .i64 0, .int .i64 0, .int .i64 0, .int .i64 0, .int .i64 0, .int .i64 0, .int .i64 0, .int .i64 0, .slice none 0 0, .slice none 0 0, .pointer none, .slice none 0 0] wm.heap.size rfl rfl) ?_ [.pointer none, .pointer none, .pointer none, .pointer none, .int .i64 0, .int .i64 0, .int .i64 0, .int .i64 0, .int .i64 0, .int .i64 0, .int .i64 0, .int .i64 0, .int .i64 0, .int .i64 0, .int .i64 0, .int .i64 0, .int .i64 0, .slice none 0 0, .slice none 0 0, .pointer none, .slice none 0 0] ?_ sz_life rfl rfl ?_; rfl; rfl; rfl; rfl; intro wX BX kBX; skip))
      go_meet
      exact ⟨wm.heap.size, false, rfl, rfl, zm, BX.lt, fun h => (by cases h), Touch.new (Touch.alloc km _) kBX zm⟩
    · obtain ⟨ra, rc, hrv⟩ := hM.roots.form
      obtain ⟨aa, ac, hav⟩ := hM.at_.form
      obtain ⟨rn, hrn⟩ : ∃ rn : Nat, rn = (nz + 1) := ⟨_, rfl⟩
      have hrl : (rootsN (wd15 m C nt T nr R s0) Z2 (nz + 1)).length = rn := by rw [hrn]; simp [rootsN]
      rw [hrl] at hrv
      obtain ⟨an, han⟩ : ∃ an, an = (wd15 m C nt T nr R s0).at_.length := ⟨_, rfl⟩
      rw [← han] at hav
      subst hav
      subst hrv
      obtain ⟨y, hy⟩ : ∃ y, y = (wd15 m C nt T nr R s0).sp (beg15 (s0 % 101)) (end15 (s0 % 101)) := ⟨_, rfl⟩
      obtain ⟨thr, hthr⟩ : ∃ thr, thr = s1 % 8 := ⟨_, rfl⟩
      rw [← hy, ← hthr]
      have HM := Lib.hid hM
      have HG := Lib.hid hG
      have HY := Lib.hid hy
      have HT := Lib.hid hthr
      have HAn := Lib.hid han
      have HRn := Lib.hid hrn
      have zm := km.size
      clear hM hG hy hthr han hrl hrn
      unfold lifeV
      go_wp2_with (first | (refine store_bl ?_ 42 (.tmp 8) (.tmp 35) ?_ (BL.new1 wm 42 _ [.pointer none, .pointer none, .pointer none, .pointer none, .int .i64 0, .int .i64 0, .int .i64 0, .int .i64 0, .int .i64 0, .int .i64 0, .int .i64 0, .int .i64 0, .int .i64 0, .int .i64 0, .int .i64 0, .int .i64 0, .int .i64 0, .slice none 0 0, .slice none 0 0, .pointer none, .slice none 0 0] wm.heap.size rfl rfl) ?_ [.pointer (some ⟨ba, 0, none⟩), .pointer (some ⟨bt, 0, none⟩), .pointer (some ⟨ba, 0, none⟩), .pointer (some ⟨bt, 0, none⟩), .int .i64 (y 0).f, .int .i64 (y 0).t, .int .i64 (y 0).e, .int .i64 (y 1).f, .int .i64 (y 1).t, .int .i64 (y 1).e, .int .i64 (y 2).f, .int .i64 (y 2).t, .int .i64 (y 2).e, .int .i64 (y 3).f, .int .i64 (y 3).t, .int .i64 (y 3).e, .int .i64 thr, .slice aa an ac, .slice ra rn rc, .pointer (some ⟨tb, 0, none⟩), .slice Ac m cc] ?_ sz_life rfl rfl ?_; rfl; rfl; rfl; rfl; intro wX BX kBX; skip))
      go_meet
      have hMX := HM.out.keep (Touch.new ((Touch.refl _ wm).alloc _) kBX (Nat.le_refl _))
      have hern := HRn.out
      subst hern
      exact ⟨wm.heap.size, true, rfl, rfl, zm, BX.lt, fun _ => ⟨xb, ba, bw, bt, A, cap, aa, ac, ra, rc, tb, mb, vb, D, base, an, y, thr, HAn.out, HY.out, HT.out, HM.out.z, BX, hMX, HG.out⟩, Touch.new (Touch.alloc km _) kBX zm⟩
  case rest =>
  obtain ⟨w7, rfl⟩ : ∃ w7 : World, w7 = wc := ⟨_, rfl⟩
  obtain ⟨b8, ok2, rfl, rfl, hb8, hb8l, hL2, k7⟩ := hcut
  have K7 := Keeps.trans K6 k7
  have z7 := k7.size
  have HL2 := Lib.hid hL2
  clear hL2 B7 c0 c1 c2 c3 c4 c5
  cases ok1 with
  | false =>
    go_wp2_with fail
    refine Calls.mono (HAw.out _) ?_
    rintro e wa ⟨rfl, ka⟩
    go_wp2_with fail
    refine Calls.mono (HAw.out _) ?_
    rintro e wb ⟨rfl, kb⟩
    go_wp2_with fail
    go_returns
    exact ⟨rfl, Keeps.trans (Keeps.trans K7 ka) kb⟩
  | true =>
    cases ok2 with
    | false =>
      go_wp2_with fail
      refine Calls.mono (HAw.out _) ?_
      rintro e wa ⟨rfl, ka⟩
      go_wp2_with fail
      refine Calls.mono (HAw.out _) ?_
      rintro e wb ⟨rfl, kb⟩
      go_wp2_with fail
      go_returns
      exact ⟨rfl, Keeps.trans (Keeps.trans K7 ka) kb⟩
    | true =>
      obtain ⟨xb, ba, bw, bt, A, cap, aa, ac, ra, rcx, tb, mb, vb, D, base, an, y, thr, _, hy, ht, hbb, B5, hM1, hG1⟩ := HL1.out rfl
      obtain ⟨xbq, baq, bwq, btq, Aq, capq, aaq, acq, raq, rcq, tbq, mbq, vbq, Dq, baseq, anq, yq, thrq, _, hyq, htq, hbbq, B8, hM2, hG2⟩ := HL2.out rfl
      obtain rfl : y = yq := hy.trans hyq.symm
      obtain rfl : thr = thrq := ht.trans htq.symm
      have HOk := Lib.hid (wd15_ok (R := R) (s0 := s0) hG1 HA.out.thok)
      have hx : 0 ≤ s0 % 101 ∧ s0 % 101 ≤ 100 := by omega
      have ht0 : 0 ≤ thr ∧ thr ≤ 7 := by rw [ht]; omega
      have hm0 : 0 < m := hG1.2.2.2.1
      have hnz20 : nz ≤ 20 := hG1.2.2.1
      have hZ2i := HZ2.out
      clear HL1 HL2 hyq htq ht hG2 hG1
      generalize wd15 m C nt T nr R s0 = s at *
      generalize s0 % 101 = x0 at *
      have HS1 := Lib.hid (rootsN_in s Z nz)
      have HS2 := Lib.hid (rootsN_in s Z2 (nz + 1))
      have hl1 : (rootsN s Z nz).length = nz := by simp [rootsN]
      have hl2 : (rootsN s Z2 (nz + 1)).length = nz + 1 := by simp [rootsN]
      have HSub := Lib.hid (show ∀ x, x ∈ rootsN s Z nz → x ∈ rootsN s Z2 (nz + 1) from fun x hx => by
        rw [rootsN_succ]
        refine List.mem_append_left _ ?_
        have e : rootsN s Z2 nz = rootsN s Z nz := by
          unfold rootsN
          refine List.map_congr_left fun i hi => ?_
          have := List.mem_range.1 hi
          rw [hZ2i]; simp [this]
        rw [e]; exact hx)
      clear hZ2i
      generalize hrl : rootsN s Z nz = rl at *
      generalize hrl2 : rootsN s Z2 (nz + 1) = rl2 at *
      clear hrl hrl2
      have HY := Lib.hid hy
      have hM1z := hM1.z
      have hxb := hM1.roots.lt
      have p1 := hM1.pl.lo
      have p2 := hM1.pl.hi
      have p3 := hM2.pl.lo
      have p4 := hM2.pl.hi
      have HM1 := Lib.hid hM1
      have HM2 := Lib.hid hM2
      have HB5 := Lib.hid B5
      have HB8 := Lib.hid B8
      clear hM1 hM2 B5 B8 hy
      go_wp2_with fail
      refine Calls.mono (HAw.out _) ?_
      rintro e w8 ⟨rfl, k8⟩
      have K8 := Keeps.trans K7 k8
      have k28 : Keeps w2 w8 := Keeps.trans (Keeps.trans HK6.out k7) k8
      have z8 := k8.size
      have B58 := HB5.out.keep k28
      have B88 := HB8.out.keep k8
      have M1 := Lib.hid (HM1.out.keep k28)
      have M2 := Lib.hid (HM2.out.keep k8)
      clear HM1 HM2 HB5 HB8
      have e0 := B58.c 0 _ rfl
      have e1 := B58.c 1 _ rfl
      have e4 := B58.c 4 _ rfl
      have e5 := B58.c 5 _ rfl
      have e6 := B58.c 6 _ rfl
      have e7 := B58.c 7 _ rfl
      have e8 := B58.c 8 _ rfl
      have e9 := B58.c 9 _ rfl
      have e10 := B58.c 10 _ rfl
      have e11 := B58.c 11 _ rfl
      have e12 := B58.c 12 _ rfl
      have e13 := B58.c 13 _ rfl
      have e14 := B58.c 14 _ rfl
      have e15 := B58.c 15 _ rfl
      have e16 := B58.c 16 _ rfl
      have e18 := B58.c 18 _ rfl
      have e19 := B58.c 19 _ rfl
      have hr1 := M1.out.run HOk.out.1 HOk.out.2.1 hx ht0 hm0 (rc := rcx) (by rw [hl1]) (by rw [hl1]; omega) HS1.out y HY.out
      rw [hl1] at hr1
      have HRun1 := Lib.hid hr1
      clear hr1
      go_wp2_with fail
      refine Calls.mono HRun1.out ?_
      clear HRun1
      rintro e w9 (⟨hF, rfl, k9⟩ | ⟨hnF, s1', out, ov, D1, hR1, rfl, _, hout, _, _, k9⟩)
      · clear e0 e1 e4 e5 e6 e7 e8 e9 e10 e11 e12 e13 e14 e15 e16 e18 e19
        have HF := Lib.hid hF
        have K9 := Keeps.trans K8 k9
        have z9 := k9.size
        have M29 := Lib.hid (M2.out.keep k9)
        have B89 := B88.keep k9
        have HRun2 := Lib.hid (fun wx (kk : Keeps w9 wx) => (M29.out.keep kk).run HOk.out.1 HOk.out.2.1 hx ht0 hm0 (rc := rcq) (by rw [hl2]) (by rw [hl2]; omega) HS2.out y HY.out)
        rw [hl2] at HRun2
        clear hF
        go_wp2_with (first | (refine store_bl ?_ 38 (.tmp 11) (.tmp 61) ?_ (BL.new1 w9 38 _ [.int .i64 0, .int .i64 0, .int .i64 0, .int .i64 0, .int .i64 0, .int .i64 0, .int .i64 0, .int .i64 0, .int .i64 0, .int .i64 0, .int .i64 0, .int .i64 0, .int .i64 0] w9.heap.size rfl rfl) ?_ [.int .i64 0, .int .i64 0, .int .i64 0, .int .i64 0, .int .i64 0, .int .i64 0, .int .i64 0, .int .i64 0, .int .i64 0, .int .i64 0, .int .i64 0, .int .i64 0, .int .i64 0] ?_ sz_young_ rfl rfl ?_; rfl; rfl; rfl; rfl; intro w10 BY kBY; skip; have B8x := BL.touch (BL.alloc B89 _) kBY (show ¬ b8 = w9.heap.size by omega); have g0 := B8x.c 0 _ rfl; have g1 := B8x.c 1 _ rfl; have g4 := B8x.c 4 _ rfl; have g5 := B8x.c 5 _ rfl; have g6 := B8x.c 6 _ rfl; have g7 := B8x.c 7 _ rfl; have g8 := B8x.c 8 _ rfl; have g9 := B8x.c 9 _ rfl; have g10 := B8x.c 10 _ rfl; have g11 := B8x.c 11 _ rfl; have g12 := B8x.c 12 _ rfl; have g13 := B8x.c 13 _ rfl; have g14 := B8x.c 14 _ rfl; have g15 := B8x.c 15 _ rfl; have g16 := B8x.c 16 _ rfl; have g18 := B8x.c 18 _ rfl; have g19 := B8x.c 19 _ rfl))
        have k910 : Keeps w9 w10 := Touch.new ((Touch.refl _ w9).alloc _) kBY (Nat.le_refl _)
        refine Calls.mono (HRun2.out _ k910) ?_
        clear HRun2
        rintro e w11 (⟨_, rfl, k11⟩ | ⟨hnF, _⟩)
        · clear g0 g1 g4 g5 g6 g7 g8 g9 g10 g11 g12 g13 g14 g15 g16 g18 g19
          go_wp2_with (first | (refine store_bl ?_ 38 (.tmp 14) (.tmp 76) ?_ (BL.new1 w11 38 _ [.int .i64 0, .int .i64 0, .int .i64 0, .int .i64 0, .int .i64 0, .int .i64 0, .int .i64 0, .int .i64 0, .int .i64 0, .int .i64 0, .int .i64 0, .int .i64 0, .int .i64 0] w11.heap.size rfl rfl) ?_ [.int .i64 0, .int .i64 0, .int .i64 0, .int .i64 0, .int .i64 0, .int .i64 0, .int .i64 0, .int .i64 0, .int .i64 0, .int .i64 0, .int .i64 0, .int .i64 0, .int .i64 0] ?_ sz_young_ rfl rfl ?_; rfl; rfl; rfl; rfl; intro w12 BZ kBZ; skip))
          go_returns
          have K11 := Keeps.trans (Keeps.trans K9 k910) k11
          exact ⟨rfl, Touch.new (Touch.alloc K11 _) kBZ K11.size⟩
        · exact absurd HF.out hnF
      · clear e0 e1 e4 e5 e6 e7 e8 e9 e10 e11 e12 e13 e14 e15 e16 e18 e19
        obtain ⟨oa, oc, hov⟩ := hout.form
        have hHW : HW 1000 m C s.f y s.g := by rw [HY.out]; exact HOk.out.1.hw
        have hTo : ToOk 1000 y (y 3) := by rw [HY.out]; exact LwOk.toOk (m := m) (C := C) hx HOk.out.2.1
        have hnd := (HOk.out.1.hw.tile 0 (by omega)).nodup'
        have hri : ∀ x, x ∈ rl → x = 0 ∨ inG s.g x := fun x h => (HS1.out x h).imp_right (HOk.out.1.mem x).1
        have hri2 : ∀ x, x ∈ rl2 → x = 0 ∨ inG s.g x := fun x h => (HS2.out x h).imp_right (HOk.out.1.mem x).1
        obtain ⟨φ, ho, hzz, hold, hinj, ⟨t1, t2, t3, t4, _⟩, _⟩ := run_facts hHW hTo hnF hnd hri hR1
        have hol : out.length = nz := by rw [ho, List.length_map, hl1]
        rw [hol] at hov
        subst hov
        have hgd : ∀ j, j < nz → rl.getD j 0 ∈ rl ∧ out.getD j 0 = fm φ (rl.getD j 0) := fun j hj => by
          have hjl : j < rl.length := by rw [hl1]; exact hj
          have e1 : rl.getD j 0 = rl[j]'hjl := by rw [List.getD_eq_getElem?_getD, List.getElem?_eq_getElem hjl]; rfl
          refine ⟨by rw [e1]; exact List.getElem_mem _, ?_⟩
          have e2 : out.getD j 0 = (rl.map (fm φ)).getD j 0 := congrArg (fun l => l.getD j 0) ho
          rw [e2, e1, List.getD_eq_getElem?_getD, List.getElem?_map, List.getElem?_eq_getElem hjl]
          rfl
        have HZero := Lib.hid (show ∀ j, j < nz → (out.getD j 0 = 0 ↔ rl.getD j 0 = 0) from fun j hj => by rw [(hgd j hj).2]; exact hzz _ (hgd j hj).1)
        have HOld := Lib.hid (show ∀ j, j < nz → oldB (rl.getD j 0) = true → out.getD j 0 = rl.getD j 0 from fun j hj hb => by
          rw [(hgd j hj).2]
          rcases HS1.out _ (hgd j hj).1 with h | h
          · rw [h] at hb; exact absurd hb (by decide)
          · exact hold _ (hgd j hj).1 (old_g0 HOk.out.1 h hb))
        have HInj := Lib.hid (show ∀ j k, j < nz → k < nz → (out.getD j 0 = out.getD k 0 ↔ rl.getD j 0 = rl.getD k 0) from fun j k hj hk => by rw [(hgd j hj).2, (hgd k hk).2]; exact hinj _ _ (hgd j hj).1 (hgd k hk).1)
        have HMore := Lib.hid (fun (s2' : Sc) (out2 : List Int) h2 => run_more hHW hTo hnF hnd hri2 HSub.out hR1 (s' := s2') (out' := out2) h2)
        have HF2 := Lib.hid (fun (s2' : Sc) (out2 : List Int) h2 => run_facts (thr := thr) hHW hTo hnF hnd hri2 (s' := s2') (out := out2) h2)
        have hod := (show OwnInts w9 w8.heap.size (.slice oa out.length oc) out by rw [hol]; exact hout).rd.1
        rw [hol] at hod
        have HRo9 := Lib.hid hod
        have HOut := Lib.hid hout
        have hlo9 := hout.lt
        have HNF := Lib.hid hnF
        have HR1 := Lib.hid (And.intro t3 t4)
        have K9 : Keeps w w9 := Touch.trans K8 k9 (fun x e hx => by omega)
        have z9 := k9.size
        have B59 := B58.touch k9 (show ¬ (b5 = bw ∨ b5 = vb) by omega)
        have B89 := B88.touch k9 (show ¬ (b8 = bw ∨ b8 = vb) by omega)
        have M29 := Lib.hid (M2.out.low k9 (fun kk e => by omega))
        have hxr := M1.out.roots
        have hxl := hxr.lt
        rw [← hl1] at hxr
        have hxd := (hxr.touch k9 (fun kk e h => by have := (hxl kk (by rw [hl1] at e; exact e)).1; omega)).rd.1
        rw [hl1] at hxd
        have HRx9 := Lib.hid hxd
        clear hxr hxd hod ho hzz hold hinj hgd t1 t2 t3 t4 hHW hTo hnd hri hri2 hR1 hout hnF M1 M2 B58 B88 HSub HS1
        have HRun2 := Lib.hid (fun wx (kk : Keeps w9 wx) => (M29.out.keep kk).run HOk.out.1 HOk.out.2.1 hx ht0 hm0 (rc := rcq) (by rw [hl2]) (by rw [hl2]; omega) HS2.out y HY.out)
        rw [hl2] at HRun2
        obtain ⟨z1, hz1⟩ : ∃ z1 : Nat → Sp, z1 = fun j => if j = 3 then emp (y 2) else nxL y s1' j := ⟨_, rfl⟩
        rw [← hz1]
        have HZ1 := Lib.hid (show z1 0 = s1'.od ∧ z1 2 = s1'.tt by rw [hz1]; exact ⟨rfl, rfl⟩)
        clear hz1
        unfold youngV
        go_wp2_with (first | (refine store_bl ?_ 38 (.tmp 11) (.tmp 61) ?_ (BL.new1 w9 38 _ [.int .i64 0, .int .i64 0, .int .i64 0, .int .i64 0, .int .i64 0, .int .i64 0, .int .i64 0, .int .i64 0, .int .i64 0, .int .i64 0, .int .i64 0, .int .i64 0, .int .i64 0] w9.heap.size rfl rfl) ?_ [.int .i64 (z1 0).f, .int .i64 (z1 0).t, .int .i64 (z1 0).e, .int .i64 (z1 1).f, .int .i64 (z1 1).t, .int .i64 (z1 1).e, .int .i64 (z1 2).f, .int .i64 (z1 2).t, .int .i64 (z1 2).e, .int .i64 (z1 3).f, .int .i64 (z1 3).t, .int .i64 (z1 3).e, .int .i64 thr] ?_ sz_young_ rfl rfl ?_; rfl; rfl; rfl; rfl; intro w10 BY kBY; skip; have B8x := BL.touch (BL.alloc B89 _) kBY (show ¬ b8 = w9.heap.size by omega); have g0 := B8x.c 0 _ rfl; have g1 := B8x.c 1 _ rfl; have g4 := B8x.c 4 _ rfl; have g5 := B8x.c 5 _ rfl; have g6 := B8x.c 6 _ rfl; have g7 := B8x.c 7 _ rfl; have g8 := B8x.c 8 _ rfl; have g9 := B8x.c 9 _ rfl; have g10 := B8x.c 10 _ rfl; have g11 := B8x.c 11 _ rfl; have g12 := B8x.c 12 _ rfl; have g13 := B8x.c 13 _ rfl; have g14 := B8x.c 14 _ rfl; have g15 := B8x.c 15 _ rfl; have g16 := B8x.c 16 _ rfl; have g18 := B8x.c 18 _ rfl; have g19 := B8x.c 19 _ rfl))
        have k910 : Keeps w9 w10 := Touch.new ((Touch.refl _ w9).alloc _) kBY (Nat.le_refl _)
        refine Calls.mono (HRun2.out _ k910) ?_
        clear HRun2
        rintro e w11 (⟨hF, _⟩ | ⟨_, s2', out2, ov2, D2, hR2, rfl, _, hout2, _, _, k11⟩)
        · exact absurd hF (by have := HNF.out; omega)
        · obtain ⟨oa2, oc2, hov2⟩ := hout2.form
          obtain ⟨on2, hon2⟩ : ∃ on2, on2 = out2.length := ⟨_, rfl⟩
          rw [← hon2] at hov2
          subst hov2
          have hmore := HMore.out _ _ hR2
          obtain ⟨_, _, _, _, _, ⟨_, _, d3, d4, _⟩, _⟩ := HF2.out _ _ hR2
          have K10 := Keeps.trans K9 k910
          have z10 := k910.size
          have z11 := k11.size
          have K11 : Keeps w w11 := Touch.trans K10 k11 (fun x e hx => by omega)
          have B511 := (B59.keep k910).touch k11 (show ¬ (b5 = bwq ∨ b5 = vbq) by omega)
          have hYl := BY.lt
          have BY11 := BY.touch k11 (show ¬ (w9.heap.size = bwq ∨ w9.heap.size = vbq) by omega)
          have HRo11 := Lib.hid ((HRo9.out.keep k910).keepS k11 (fun b off e h => by subst e; have := hlo9 b rfl; omega))
          have HRx11 := Lib.hid ((HRx9.out.keep k910).keepS k11 (fun b off e h => by subst e; have := hxb b rfl; omega))
          obtain ⟨z2, hz2⟩ : ∃ z2 : Nat → Sp, z2 = fun j => if j = 3 then emp (y 2) else nxL y s2' j := ⟨_, rfl⟩
          rw [← hz2]
          have hz20 : z2 0 = s2'.od ∧ z2 2 = s2'.tt := by rw [hz2]; exact ⟨rfl, rfl⟩
          have hr10 : rightB (z1 0) = true ∧ rightB (z1 2) = true := by rw [HZ1.out.1, HZ1.out.2]; exact ⟨HR1.out.2, HR1.out.1⟩
          have hr20 : rightB (z2 0) = true ∧ rightB (z2 2) = true := by rw [hz20.1, hz20.2]; exact ⟨d4, d3⟩
          rw [← HZ1.out.1, ← HZ1.out.2, ← hz20.1, ← hz20.2] at hmore
          have HU1 := Lib.hid (fun wx => used_any (z2 0) wx hr20.1)
          have HU2 := Lib.hid (fun wx => used_any (z2 2) wx hr20.2)
          have HU3 := Lib.hid (fun wx => used_any (z1 0) wx hr10.1)
          have HU4 := Lib.hid (fun wx => used_any (z1 2) wx hr10.2)
          have b1 := (rightB_iff _).1 hr10.1
          have b2 := (rightB_iff _).1 hr10.2
          have b3 := (rightB_iff _).1 hr20.1
          have b4 := (rightB_iff _).1 hr20.2
          obtain ⟨u1, hu1⟩ : ∃ u1, (z2 0).t - (z2 0).f = u1 := ⟨_, rfl⟩
          obtain ⟨u2, hu2⟩ : ∃ u2, (z2 2).t - (z2 2).f = u2 := ⟨_, rfl⟩
          obtain ⟨u3, hu3⟩ : ∃ u3, (z1 0).t - (z1 0).f = u3 := ⟨_, rfl⟩
          obtain ⟨u4, hu4⟩ : ∃ u4, (z1 2).t - (z1 2).f = u4 := ⟨_, rfl⟩
          rw [hu1, hu2, hu3, hu4] at hmore
          rw [hu1] at HU1
          rw [hu2] at HU2
          rw [hu3] at HU3
          rw [hu4] at HU4
          have gw1 : IntKind.i64.wrap (u1 + u2) = u1 + u2 := IntWalk.i64_in _ ⟨by omega, by omega⟩
          have gw2 : IntKind.i64.wrap (u3 + u4) = u3 + u4 := IntWalk.i64_in _ ⟨by omega, by omega⟩
          unfold agg at HU1 HU2 HU3 HU4
          clear hz2 hz20 hr10 hr20 b1 b2 b3 b4 hu1 hu2 hu3 hu4 HMore HF2 hR2 hout2 d3 d4 hon2 B89 B8x M29 HZ1 HR1 HNF HS2 HOk HA HZ2 HWA2 HAw g0 g1 g4 g5 g6 g7 g8 g9 g10 g11 g12 g13 g14 g15 g16 g18 g19
          unfold youngV
          go_wp2_with (first | (refine store_bl ?_ 38 (.tmp 14) (.tmp 76) ?_ (BL.new1 w11 38 _ [.int .i64 0, .int .i64 0, .int .i64 0, .int .i64 0, .int .i64 0, .int .i64 0, .int .i64 0, .int .i64 0, .int .i64 0, .int .i64 0, .int .i64 0, .int .i64 0, .int .i64 0] w11.heap.size rfl rfl) ?_ [.int .i64 (z2 0).f, .int .i64 (z2 0).t, .int .i64 (z2 0).e, .int .i64 (z2 1).f, .int .i64 (z2 1).t, .int .i64 (z2 1).e, .int .i64 (z2 2).f, .int .i64 (z2 2).t, .int .i64 (z2 2).e, .int .i64 (z2 3).f, .int .i64 (z2 3).t, .int .i64 (z2 3).e, .int .i64 thr] ?_ sz_young_ rfl rfl ?_; rfl; rfl; rfl; rfl; intro w12 BZ kBZ; skip))
          have k112 : Keeps w11 w12 := Touch.new ((Touch.refl _ w11).alloc _) kBZ (Nat.le_refl _)
          have K12 := Keeps.trans K11 k112
          have B12 := B511.keep k112
          have BYa := BY11.keep k112
          have BYb := BZ
          have HRo := Lib.hid (HRo11.out.keep k112)
          have HRx := Lib.hid (HRx11.out.keep k112)
          clear kBZ kBY BZ BY BY11 B511 HRo11 HRx11 HRo9 HRx9 k9 k910 k11 k112 B59
          go_loopw [89] (fun i wr => ∃ j : Nat, j ≤ nz ∧ i = .int .i64 j ∧ Keeps w12 wr) (fun i _ => nz - (intOf i).toNat)
          case atStart => exact ⟨0, by omega, rfl, Touch.refl _ _⟩
          case round =>
            obtain ⟨wo, rfl⟩ : ∃ wo : World, wo = wr := ⟨_, rfl⟩
            obtain ⟨j, hj, rfl, ko⟩ := hrel
            have c18 := cell_keep (B12.c 18 _ rfl) ko
            have zo := ko.size
            by_cases hlt : j < nz
            · obtain ⟨ob, oo, hoe, cr0⟩ := (HRo.out.keep ko).one hlt
              obtain ⟨xo_, xo, hxe, cx0⟩ := (HRx.out.keep ko).one hlt
              subst hoe
              subst hxe
              have cr : wo.cell? ⟨ob, oo + j, none⟩ = some (.int .i64 (out.getD j 0)) := cr0
              have cx : wo.cell? ⟨xo_, xo + j, none⟩ = some (.int .i64 (rl.getD j 0)) := cx0
              have hjI : (j : Int) < nz := by omega
              have hZ := HZero.out j hlt
              have HOd := Lib.hid (HOld.out j hlt)
              have HEq := Lib.hid (fun k hk => HInj.out j k hlt (show k < nz from hk))
              generalize out.getD j 0 = r at *
              generalize rl.getD j 0 = x at *
              have HOl := Lib.hid (fun w => old_any (.pointer (some ⟨b5, 0, none⟩)) x w)
              clear cr0 cx0
              go_upto_region 14 with fail
              go_cut [131] from 92 to 131 (fun c wx => c = .bool false ∧ Keeps wo wx)
              case first =>
                clear HEq
                by_cases hx0 : x = 0
                · have hr0 := hZ.2 hx0
                  subst hx0
                  subst hr0
                  clear hZ
                  refine wp_region_noPanic ?_
                  refine wp_region_held_drew (S := (fun w' => Keeps wo w')) (by kernel_rfl) (Touch.refl _ wo).drew (fun hHeld => ?_)
                  refine' wpAnyH_take (i := 0) ?hi0_1 ?hs0_1 ?hf0_1 ?hr0_1 ?hQ0_1 ?hy0_1 (by assumption) ?rest0_1
                  case hi0_1 => simp only [List.getElem?_toArray, List.getElem?_cons_zero] <;> rfl
                  case hs0_1 => kernel_rfl
                  case hf0_1 => kernel_rfl
                  case hr0_1 => kernel_rfl
                  case hQ0_1 => exact fun _ _ _ h => h
                  case hy0_1 => exact Or.inl ⟨by rfl, fun w hSw => by have q0 := cell_keep cr hSw; have q1 := cell_keep cx hSw; have q2 := cell_keep c18 hSw; go_simp <;> (try with_reducible rfl)⟩
                  simp only [Act.put, List.setIfInBounds_toArray, List.set_cons_zero, List.set_cons_succ]
                  refine' wpAnyH_take (i := 1) ?hi1_1 ?hs1_1 ?hf1_1 ?hr1_1 ?hQ1_1 ?hy1_1 (by assumption) ?rest1_1
                  case hi1_1 => simp only [List.getElem?_toArray, List.getElem?_cons_succ, List.getElem?_cons_zero] <;> rfl
                  case hs1_1 => kernel_rfl
                  case hf1_1 => kernel_rfl
                  case hr1_1 => kernel_rfl
                  case hQ1_1 => exact fun _ _ _ h => h
                  case hy1_1 => exact Or.inl ⟨by rfl, fun w hSw => by have q0 := cell_keep cr hSw; have q1 := cell_keep cx hSw; have q2 := cell_keep c18 hSw; go_simp <;> (try with_reducible rfl)⟩
                  simp only [Act.put, List.setIfInBounds_toArray, List.set_cons_zero, List.set_cons_succ]
                  refine' wpAnyH_take (i := 2) ?hi2_1 ?hs2_1 ?hf2_1 ?hr2_1 ?hQ2_1 ?hy2_1 (by assumption) ?rest2_1
                  case hi2_1 => simp only [List.getElem?_toArray, List.getElem?_cons_succ, List.getElem?_cons_zero] <;> rfl
                  case hs2_1 => kernel_rfl
                  case hf2_1 => kernel_rfl
                  case hr2_1 => kernel_rfl
                  case hQ2_1 => exact fun _ _ _ h => h
                  case hy2_1 => exact Or.inl ⟨by rfl, fun w hSw => by have q0 := cell_keep cr hSw; have q1 := cell_keep cx hSw; have q2 := cell_keep c18 hSw; go_simp <;> (try with_reducible rfl)⟩
                  simp only [Act.put, List.setIfInBounds_toArray, List.set_cons_zero, List.set_cons_succ]
                  refine' wpAnyH_take (i := 3) ?hi3_1 ?hs3_1 ?hf3_1 ?hr3_1 ?hQ3_1 ?hy3_1 (by assumption) ?rest3_1
                  case hi3_1 => simp only [List.getElem?_toArray, List.getElem?_cons_succ, List.getElem?_cons_zero] <;> rfl
                  case hs3_1 => kernel_rfl
                  case hf3_1 => kernel_rfl
                  case hr3_1 => kernel_rfl
                  case hQ3_1 => exact fun _ _ _ h => h
                  case hy3_1 => exact Or.inl ⟨by rfl, fun w hSw => by have q0 := cell_keep cr hSw; have q1 := cell_keep cx hSw; have q2 := cell_keep c18 hSw; go_simp <;> (try with_reducible rfl)⟩
                  simp only [Act.put, List.setIfInBounds_toArray, List.set_cons_zero, List.set_cons_succ]
                  refine' wpAnyH_take (i := 4) ?hi4_1 ?hs4_1 ?hf4_1 ?hr4_1 ?hQ4_1 ?hy4_1 (by assumption) ?rest4_1
                  case hi4_1 => simp only [List.getElem?_toArray, List.getElem?_cons_succ, List.getElem?_cons_zero] <;> rfl
                  case hs4_1 => kernel_rfl
                  case hf4_1 => kernel_rfl
                  case hr4_1 => kernel_rfl
                  case hQ4_1 => exact fun _ _ _ h => h
                  case hy4_1 => exact Or.inl ⟨by rfl, fun w hSw => by have q0 := cell_keep cr hSw; have q1 := cell_keep cx hSw; have q2 := cell_keep c18 hSw; go_simp <;> (try with_reducible rfl)⟩
                  simp only [Act.put, List.setIfInBounds_toArray, List.set_cons_zero, List.set_cons_succ]
                  refine' wpAnyH_take (i := 5) ?hi5_1 ?hs5_1 ?hf5_1 ?hr5_1 ?hQ5_1 ?hy5_1 (by assumption) ?rest5_1
                  case hi5_1 => simp only [List.getElem?_toArray, List.getElem?_cons_succ, List.getElem?_cons_zero] <;> rfl
                  case hs5_1 => kernel_rfl
                  case hf5_1 => kernel_rfl
                  case hr5_1 => kernel_rfl
                  case hQ5_1 => exact fun _ _ _ h => h
                  case hy5_1 => exact Or.inl ⟨by rfl, fun w hSw => by have q0 := cell_keep cr hSw; have q1 := cell_keep cx hSw; have q2 := cell_keep c18 hSw; go_simp <;> (try with_reducible rfl)⟩
                  simp only [Act.put, List.setIfInBounds_toArray, List.set_cons_zero, List.set_cons_succ]
                  refine' wpAnyH_take (i := 6) ?hi6_1 ?hs6_1 ?hf6_1 ?hr6_1 ?hQ6_1 ?hy6_1 (by assumption) ?rest6_1
                  case hi6_1 => simp only [List.getElem?_toArray, List.getElem?_cons_succ, List.getElem?_cons_zero] <;> rfl
                  case hs6_1 => kernel_rfl
                  case hf6_1 => kernel_rfl
                  case hr6_1 => kernel_rfl
                  case hQ6_1 => exact fun _ _ _ h => h
                  case hy6_1 => exact Or.inl ⟨by rfl, fun w hSw => by have q0 := cell_keep cr hSw; have q1 := cell_keep cx hSw; have q2 := cell_keep c18 hSw; go_simp <;> (try with_reducible rfl)⟩
                  simp only [Act.put, List.setIfInBounds_toArray, List.set_cons_zero, List.set_cons_succ]
                  refine' wpAnyH_take (i := 7) ?hi7_1 ?hs7_1 ?hf7_1 ?hr7_1 ?hQ7_1 ?hy7_1 (by assumption) ?rest7_1
                  case hi7_1 => simp only [List.getElem?_toArray, List.getElem?_cons_succ, List.getElem?_cons_zero] <;> rfl
                  case hs7_1 => kernel_rfl
                  case hf7_1 => kernel_rfl
                  case hr7_1 => kernel_rfl
                  case hQ7_1 => exact fun _ _ _ h => h
                  case hy7_1 => exact Or.inl ⟨by rfl, fun w hSw => by have q0 := cell_keep cr hSw; have q1 := cell_keep cx hSw; have q2 := cell_keep c18 hSw; go_simp <;> (try with_reducible rfl)⟩
                  simp only [Act.put, List.setIfInBounds_toArray, List.set_cons_zero, List.set_cons_succ]
                  refine' wpAnyH_take (i := 8) ?hi8_1 ?hs8_1 ?hf8_1 ?hr8_1 ?hQ8_1 ?hy8_1 (by assumption) ?rest8_1
                  case hi8_1 => simp only [List.getElem?_toArray, List.getElem?_cons_succ, List.getElem?_cons_zero] <;> rfl
                  case hs8_1 => kernel_rfl
                  case hf8_1 => kernel_rfl
                  case hr8_1 => kernel_rfl
                  case hQ8_1 => exact fun _ _ _ h => h
                  case hy8_1 => exact Or.inl ⟨by rfl, fun w hSw => by have q0 := cell_keep cr hSw; have q1 := cell_keep cx hSw; have q2 := cell_keep c18 hSw; go_simp <;> (try with_reducible rfl)⟩
                  simp only [Act.put, List.setIfInBounds_toArray, List.set_cons_zero, List.set_cons_succ]
                  refine' wpAnyH_take (i := 9) ?hi9_1 ?hs9_1 ?hf9_1 ?hr9_1 ?hQ9_1 ?hy9_1 (by assumption) ?rest9_1
                  case hi9_1 => simp only [List.getElem?_toArray, List.getElem?_cons_succ, List.getElem?_cons_zero] <;> rfl
                  case hs9_1 => kernel_rfl
                  case hf9_1 => kernel_rfl
                  case hr9_1 => kernel_rfl
                  case hQ9_1 => exact fun _ _ _ h => h
                  case hy9_1 => exact Or.inl ⟨by rfl, fun w hSw => by have q0 := cell_keep cr hSw; have q1 := cell_keep cx hSw; have q2 := cell_keep c18 hSw; go_simp <;> (try with_reducible rfl)⟩
                  simp only [Act.put, List.setIfInBounds_toArray, List.set_cons_zero, List.set_cons_succ]
                  refine' wpAnyH_take (i := 10) ?hi10_1 ?hs10_1 ?hf10_1 ?hr10_1 ?hQ10_1 ?hy10_1 (by assumption) ?rest10_1
                  case hi10_1 => simp only [List.getElem?_toArray, List.getElem?_cons_succ, List.getElem?_cons_zero] <;> rfl
                  case hs10_1 => kernel_rfl
                  case hf10_1 => kernel_rfl
                  case hr10_1 => kernel_rfl
                  case hQ10_1 => exact fun _ _ _ h => h
                  case hy10_1 => exact Or.inl ⟨by rfl, fun w hSw => by have q0 := cell_keep cr hSw; have q1 := cell_keep cx hSw; have q2 := cell_keep c18 hSw; go_simp <;> (try with_reducible rfl)⟩
                  simp only [Act.put, List.setIfInBounds_toArray, List.set_cons_zero, List.set_cons_succ]
                  refine' wpAnyH_take (i := 11) ?hi11_1 ?hs11_1 ?hf11_1 ?hr11_1 ?hQ11_1 ?hy11_1 (by assumption) ?rest11_1
                  case hi11_1 => simp only [List.getElem?_toArray, List.getElem?_cons_succ, List.getElem?_cons_zero] <;> rfl
                  case hs11_1 => kernel_rfl
                  case hf11_1 => kernel_rfl
                  case hr11_1 => kernel_rfl
                  case hQ11_1 => exact fun _ _ _ h => h
                  case hy11_1 => exact Or.inl ⟨by rfl, fun w hSw => by have q0 := cell_keep cr hSw; have q1 := cell_keep cx hSw; have q2 := cell_keep c18 hSw; go_simp <;> (try with_reducible rfl)⟩
                  simp only [Act.put, List.setIfInBounds_toArray, List.set_cons_zero, List.set_cons_succ]
                  refine' wpAnyH_take (i := 12) ?hi12_1 ?hs12_1 ?hf12_1 ?hr12_1 ?hQ12_1 ?hy12_1 (by assumption) ?rest12_1
                  case hi12_1 => simp only [List.getElem?_toArray, List.getElem?_cons_succ, List.getElem?_cons_zero] <;> rfl
                  case hs12_1 => kernel_rfl
                  case hf12_1 => kernel_rfl
                  case hr12_1 => kernel_rfl
                  case hQ12_1 => exact fun _ _ _ h => h
                  case hy12_1 => exact Or.inl ⟨by rfl, fun w hSw => by have q0 := cell_keep cr hSw; have q1 := cell_keep cx hSw; have q2 := cell_keep c18 hSw; go_simp <;> (try with_reducible rfl)⟩
                  simp only [Act.put, List.setIfInBounds_toArray, List.set_cons_zero, List.set_cons_succ]
                  refine' wpAnyH_take (i := 13) ?hi13_1 ?hs13_1 ?hf13_1 ?hr13_1 ?hQ13_1 ?hy13_1 (by assumption) ?rest13_1
                  case hi13_1 => simp only [List.getElem?_toArray, List.getElem?_cons_succ, List.getElem?_cons_zero] <;> rfl
                  case hs13_1 => kernel_rfl
                  case hf13_1 => kernel_rfl
                  case hr13_1 => kernel_rfl
                  case hQ13_1 => exact fun _ _ _ h => h
                  case hy13_1 => exact Or.inl ⟨by rfl, fun w hSw => by have q0 := cell_keep cr hSw; have q1 := cell_keep cx hSw; have q2 := cell_keep c18 hSw; go_simp <;> (try with_reducible rfl)⟩
                  simp only [Act.put, List.setIfInBounds_toArray, List.set_cons_zero, List.set_cons_succ]
                  refine' wpAnyH_take (i := 14) ?hi14_1 ?hs14_1 ?hf14_1 ?hr14_1 ?hQ14_1 ?hy14_1 (by assumption) ?rest14_1
                  case hi14_1 => simp only [List.getElem?_toArray, List.getElem?_cons_succ, List.getElem?_cons_zero] <;> rfl
                  case hs14_1 => kernel_rfl
                  case hf14_1 => kernel_rfl
                  case hr14_1 => kernel_rfl
                  case hQ14_1 => exact fun _ _ _ h => h
                  case hy14_1 => exact Or.inl ⟨by rfl, fun w hSw => by have q0 := cell_keep cr hSw; have q1 := cell_keep cx hSw; have q2 := cell_keep c18 hSw; go_simp <;> (try with_reducible rfl)⟩
                  simp only [Act.put, List.setIfInBounds_toArray, List.set_cons_zero, List.set_cons_succ]
                  refine' wpAnyH_take (i := 15) ?hi15_1 ?hs15_1 ?hf15_1 ?hr15_1 ?hQ15_1 ?hy15_1 (by assumption) ?rest15_1
                  case hi15_1 => simp only [List.getElem?_toArray, List.getElem?_cons_succ, List.getElem?_cons_zero] <;> rfl
                  case hs15_1 => kernel_rfl
                  case hf15_1 => kernel_rfl
                  case hr15_1 => kernel_rfl
                  case hQ15_1 => exact fun _ _ _ h => h
                  case hy15_1 => exact Or.inl ⟨by rfl, fun w hSw => by have q0 := cell_keep cr hSw; have q1 := cell_keep cx hSw; have q2 := cell_keep c18 hSw; go_simp <;> (try with_reducible rfl)⟩
                  simp only [Act.put, List.setIfInBounds_toArray, List.set_cons_zero, List.set_cons_succ]
                  refine' wpAnyH_take (i := 16) ?hi16_1 ?hs16_1 ?hf16_1 ?hr16_1 ?hQ16_1 ?hy16_1 (by assumption) ?rest16_1
                  case hi16_1 => simp only [List.getElem?_toArray, List.getElem?_cons_succ, List.getElem?_cons_zero] <;> rfl
                  case hs16_1 => kernel_rfl
                  case hf16_1 => kernel_rfl
                  case hr16_1 => kernel_rfl
                  case hQ16_1 => exact fun _ _ _ h => h
                  case hy16_1 => exact Or.inl ⟨by rfl, fun w hSw => by have q0 := cell_keep cr hSw; have q1 := cell_keep cx hSw; have q2 := cell_keep c18 hSw; go_simp <;> (try with_reducible rfl)⟩
                  simp only [Act.put, List.setIfInBounds_toArray, List.set_cons_zero, List.set_cons_succ]
                  refine' wpAnyH_take (i := 17) ?hi17_1 ?hs17_1 ?hf17_1 ?hr17_1 ?hQ17_1 ?hy17_1 (by assumption) ?rest17_1
                  case hi17_1 => simp only [List.getElem?_toArray, List.getElem?_cons_succ, List.getElem?_cons_zero] <;> rfl
                  case hs17_1 => kernel_rfl
                  case hf17_1 => kernel_rfl
                  case hr17_1 => kernel_rfl
                  case hQ17_1 => exact fun _ _ _ h => h
                  case hy17_1 => exact Or.inl ⟨by rfl, fun w hSw => by have q0 := cell_keep cr hSw; have q1 := cell_keep cx hSw; have q2 := cell_keep c18 hSw; go_simp <;> (try with_reducible rfl)⟩
                  simp only [Act.put, List.setIfInBounds_toArray, List.set_cons_zero, List.set_cons_succ]
                  refine' wpAnyH_take (i := 18) ?hi18_1 ?hs18_1 ?hf18_1 ?hr18_1 ?hQ18_1 ?hy18_1 (by assumption) ?rest18_1
                  case hi18_1 => simp only [List.getElem?_toArray, List.getElem?_cons_succ, List.getElem?_cons_zero] <;> rfl
                  case hs18_1 => kernel_rfl
                  case hf18_1 => kernel_rfl
                  case hr18_1 => kernel_rfl
                  case hQ18_1 => exact fun _ _ _ h => h
                  case hy18_1 => exact Or.inl ⟨by rfl, fun w hSw => by have q0 := cell_keep cr hSw; have q1 := cell_keep cx hSw; have q2 := cell_keep c18 hSw; go_simp <;> (try with_reducible rfl)⟩
                  simp only [Act.put, List.setIfInBounds_toArray, List.set_cons_zero, List.set_cons_succ]
                  refine' wpAnyH_take (i := 19) ?hi19_1 ?hs19_1 ?hf19_1 ?hr19_1 ?hQ19_1 ?hy19_1 (by assumption) ?rest19_1
                  case hi19_1 => simp only [List.getElem?_toArray, List.getElem?_cons_succ, List.getElem?_cons_zero] <;> rfl
                  case hs19_1 => kernel_rfl
                  case hf19_1 => kernel_rfl
                  case hr19_1 => kernel_rfl
                  case hQ19_1 => exact fun _ _ _ h => h
                  case hy19_1 => exact Or.inl ⟨by rfl, fun w hSw => by have q0 := cell_keep cr hSw; have q1 := cell_keep cx hSw; have q2 := cell_keep c18 hSw; go_simp <;> (try with_reducible rfl)⟩
                  simp only [Act.put, List.setIfInBounds_toArray, List.set_cons_zero, List.set_cons_succ]
                  refine' wpAnyH_take (i := 20) ?hi20_1 ?hs20_1 ?hf20_1 ?hr20_1 ?hQ20_1 ?hy20_1 (by assumption) ?rest20_1
                  case hi20_1 => simp only [List.getElem?_toArray, List.getElem?_cons_succ, List.getElem?_cons_zero] <;> rfl
                  case hs20_1 => kernel_rfl
                  case hf20_1 => kernel_rfl
                  case hr20_1 => kernel_rfl
                  case hQ20_1 => exact fun _ _ _ h => h
                  case hy20_1 => exact Or.inr ⟨by kernel_rfl, rfl⟩
                  simp only [Act.put, List.setIfInBounds_toArray, List.set_cons_zero, List.set_cons_succ]
                  refine' wpAnyH_take (i := 21) ?hi21_1 ?hs21_1 ?hf21_1 ?hr21_1 ?hQ21_1 ?hy21_1 (by assumption) ?rest21_1
                  case hi21_1 => simp only [List.getElem?_toArray, List.getElem?_cons_succ, List.getElem?_cons_zero] <;> rfl
                  case hs21_1 => kernel_rfl
                  case hf21_1 => kernel_rfl
                  case hr21_1 => kernel_rfl
                  case hQ21_1 => exact fun _ _ _ h => h
                  case hy21_1 => exact Or.inr ⟨by kernel_rfl, rfl⟩
                  simp only [Act.put, List.setIfInBounds_toArray, List.set_cons_zero, List.set_cons_succ]
                  refine' wpAnyH_take (i := 22) ?hi22_1 ?hs22_1 ?hf22_1 ?hr22_1 ?hQ22_1 ?hy22_1 (by assumption) ?rest22_1
                  case hi22_1 => simp only [List.getElem?_toArray, List.getElem?_cons_succ, List.getElem?_cons_zero] <;> rfl
                  case hs22_1 => kernel_rfl
                  case hf22_1 => kernel_rfl
                  case hr22_1 => kernel_rfl
                  case hQ22_1 => exact fun _ _ _ h => h
                  case hy22_1 => exact Or.inr ⟨by kernel_rfl, rfl⟩
                  simp only [Act.put, List.setIfInBounds_toArray, List.set_cons_zero, List.set_cons_succ]
                  refine' wpAnyH_take (i := 23) ?hi23_1 ?hs23_1 ?hf23_1 ?hr23_1 ?hQ23_1 ?hy23_1 (by assumption) ?rest23_1
                  case hi23_1 => simp only [List.getElem?_toArray, List.getElem?_cons_succ, List.getElem?_cons_zero] <;> rfl
                  case hs23_1 => kernel_rfl
                  case hf23_1 => kernel_rfl
                  case hr23_1 => kernel_rfl
                  case hQ23_1 => exact fun _ _ _ h => h
                  case hy23_1 => exact Or.inr ⟨by kernel_rfl, rfl⟩
                  simp only [Act.put, List.setIfInBounds_toArray, List.set_cons_zero, List.set_cons_succ]
                  refine' wpAnyH_take (i := 24) ?hi24_1 ?hs24_1 ?hf24_1 ?hr24_1 ?hQ24_1 ?hy24_1 (by assumption) ?rest24_1
                  case hi24_1 => simp only [List.getElem?_toArray, List.getElem?_cons_succ, List.getElem?_cons_zero] <;> rfl
                  case hs24_1 => kernel_rfl
                  case hf24_1 => kernel_rfl
                  case hr24_1 => kernel_rfl
                  case hQ24_1 => exact fun _ _ _ h => h
                  case hy24_1 => exact Or.inr ⟨by kernel_rfl, rfl⟩
                  simp only [Act.put, List.setIfInBounds_toArray, List.set_cons_zero, List.set_cons_succ]
                  refine' wpAnyH_take (i := 25) ?hi25_1 ?hs25_1 ?hf25_1 ?hr25_1 ?hQ25_1 ?hy25_1 (by assumption) ?rest25_1
                  case hi25_1 => simp only [List.getElem?_toArray, List.getElem?_cons_succ, List.getElem?_cons_zero] <;> rfl
                  case hs25_1 => kernel_rfl
                  case hf25_1 => kernel_rfl
                  case hr25_1 => kernel_rfl
                  case hQ25_1 => exact fun _ _ _ h => h
                  case hy25_1 => exact Or.inr ⟨by kernel_rfl, rfl⟩
                  simp only [Act.put, List.setIfInBounds_toArray, List.set_cons_zero, List.set_cons_succ]
                  refine' wpAnyH_take (i := 26) ?hi26_1 ?hs26_1 ?hf26_1 ?hr26_1 ?hQ26_1 ?hy26_1 (by assumption) ?rest26_1
                  case hi26_1 => simp only [List.getElem?_toArray, List.getElem?_cons_succ, List.getElem?_cons_zero] <;> rfl
                  case hs26_1 => kernel_rfl
                  case hf26_1 => kernel_rfl
                  case hr26_1 => kernel_rfl
                  case hQ26_1 => exact fun _ _ _ h => h
                  case hy26_1 => exact Or.inl ⟨by rfl, fun w hSw => by have q0 := cell_keep cr hSw; have q1 := cell_keep cx hSw; have q2 := cell_keep c18 hSw; go_simp <;> (try with_reducible rfl)⟩
                  simp only [Act.put, List.setIfInBounds_toArray, List.set_cons_zero, List.set_cons_succ]
                  refine' wpAnyH_take (i := 27) ?hi27_1 ?hs27_1 ?hf27_1 ?hr27_1 ?hQ27_1 ?hy27_1 (by assumption) ?rest27_1
                  case hi27_1 => simp only [List.getElem?_toArray, List.getElem?_cons_succ, List.getElem?_cons_zero] <;> rfl
                  case hs27_1 => kernel_rfl
                  case hf27_1 => kernel_rfl
                  case hr27_1 => kernel_rfl
                  case hQ27_1 => exact fun _ _ _ h => h
                  case hy27_1 => exact Or.inl ⟨by rfl, fun w hSw => by have q0 := cell_keep cr hSw; have q1 := cell_keep cx hSw; have q2 := cell_keep c18 hSw; go_simp <;> (try with_reducible rfl)⟩
                  simp only [Act.put, List.setIfInBounds_toArray, List.set_cons_zero, List.set_cons_succ]
                  refine' wpAnyH_take (i := 28) ?hi28_1 ?hs28_1 ?hf28_1 ?hr28_1 ?hQ28_1 ?hy28_1 (by assumption) ?rest28_1
                  case hi28_1 => simp only [List.getElem?_toArray, List.getElem?_cons_succ, List.getElem?_cons_zero] <;> rfl
                  case hs28_1 => kernel_rfl
                  case hf28_1 => kernel_rfl
                  case hr28_1 => kernel_rfl
                  case hQ28_1 => exact fun _ _ _ h => h
                  case hy28_1 => exact Or.inr ⟨by kernel_rfl, rfl⟩
                  simp only [Act.put, List.setIfInBounds_toArray, List.set_cons_zero, List.set_cons_succ]
                  refine' wpAnyH_take (i := 29) ?hi29_1 ?hs29_1 ?hf29_1 ?hr29_1 ?hQ29_1 ?hy29_1 (by assumption) ?rest29_1
                  case hi29_1 => simp only [List.getElem?_toArray, List.getElem?_cons_succ, List.getElem?_cons_zero] <;> rfl
                  case hs29_1 => kernel_rfl
                  case hf29_1 => kernel_rfl
                  case hr29_1 => kernel_rfl
                  case hQ29_1 => exact fun _ _ _ h => h
                  case hy29_1 => exact Or.inr ⟨by kernel_rfl, rfl⟩
                  simp only [Act.put, List.setIfInBounds_toArray, List.set_cons_zero, List.set_cons_succ]
                  refine' wpAnyH_take (i := 30) ?hi30_1 ?hs30_1 ?hf30_1 ?hr30_1 ?hQ30_1 ?hy30_1 (by assumption) ?rest30_1
                  case hi30_1 => simp only [List.getElem?_toArray, List.getElem?_cons_succ, List.getElem?_cons_zero] <;> rfl
                  case hs30_1 => kernel_rfl
                  case hf30_1 => kernel_rfl
                  case hr30_1 => kernel_rfl
                  case hQ30_1 => exact fun _ _ _ h => h
                  case hy30_1 => exact Or.inr ⟨by kernel_rfl, rfl⟩
                  simp only [Act.put, List.setIfInBounds_toArray, List.set_cons_zero, List.set_cons_succ]
                  refine' wpAnyH_take (i := 31) ?hi31_1 ?hs31_1 ?hf31_1 ?hr31_1 ?hQ31_1 ?hy31_1 (by assumption) ?rest31_1
                  case hi31_1 => simp only [List.getElem?_toArray, List.getElem?_cons_succ, List.getElem?_cons_zero] <;> rfl
                  case hs31_1 => kernel_rfl
                  case hf31_1 => kernel_rfl
                  case hr31_1 => kernel_rfl
                  case hQ31_1 => exact fun _ _ _ h => h
                  case hy31_1 => exact Or.inr ⟨by kernel_rfl, rfl⟩
                  simp only [Act.put, List.setIfInBounds_toArray, List.set_cons_zero, List.set_cons_succ]
                  refine' wpAnyH_take (i := 32) ?hi32_1 ?hs32_1 ?hf32_1 ?hr32_1 ?hQ32_1 ?hy32_1 (by assumption) ?rest32_1
                  case hi32_1 => simp only [List.getElem?_toArray, List.getElem?_cons_succ, List.getElem?_cons_zero] <;> rfl
                  case hs32_1 => kernel_rfl
                  case hf32_1 => kernel_rfl
                  case hr32_1 => kernel_rfl
                  case hQ32_1 => exact fun _ _ _ h => h
                  case hy32_1 => exact Or.inr ⟨by kernel_rfl, rfl⟩
                  simp only [Act.put, List.setIfInBounds_toArray, List.set_cons_zero, List.set_cons_succ]
                  refine' wpAnyH_take (i := 33) ?hi33_1 ?hs33_1 ?hf33_1 ?hr33_1 ?hQ33_1 ?hy33_1 (by assumption) ?rest33_1
                  case hi33_1 => simp only [List.getElem?_toArray, List.getElem?_cons_succ, List.getElem?_cons_zero] <;> rfl
                  case hs33_1 => kernel_rfl
                  case hf33_1 => kernel_rfl
                  case hr33_1 => kernel_rfl
                  case hQ33_1 => exact fun _ _ _ h => h
                  case hy33_1 => exact Or.inr ⟨by kernel_rfl, rfl⟩
                  simp only [Act.put, List.setIfInBounds_toArray, List.set_cons_zero, List.set_cons_succ]
                  refine' wpAnyH_take (i := 34) ?hi34_1 ?hs34_1 ?hf34_1 ?hr34_1 ?hQ34_1 ?hy34_1 (by assumption) ?rest34_1
                  case hi34_1 => simp only [List.getElem?_toArray, List.getElem?_cons_succ, List.getElem?_cons_zero] <;> rfl
                  case hs34_1 => kernel_rfl
                  case hf34_1 => kernel_rfl
                  case hr34_1 => kernel_rfl
                  case hQ34_1 => exact fun _ _ _ h => h
                  case hy34_1 => exact Or.inr ⟨by kernel_rfl, rfl⟩
                  simp only [Act.put, List.setIfInBounds_toArray, List.set_cons_zero, List.set_cons_succ]
                  refine' wpAnyH_take (i := 35) ?hi35_1 ?hs35_1 ?hf35_1 ?hr35_1 ?hQ35_1 ?hy35_1 (by assumption) ?rest35_1
                  case hi35_1 => simp only [List.getElem?_toArray, List.getElem?_cons_succ, List.getElem?_cons_zero] <;> rfl
                  case hs35_1 => kernel_rfl
                  case hf35_1 => kernel_rfl
                  case hr35_1 => kernel_rfl
                  case hQ35_1 => exact fun _ _ _ h => h
                  case hy35_1 => exact Or.inr ⟨by kernel_rfl, rfl⟩
                  simp only [Act.put, List.setIfInBounds_toArray, List.set_cons_zero, List.set_cons_succ]
                  refine' wpAnyH_take (i := 36) ?hi36_1 ?hs36_1 ?hf36_1 ?hr36_1 ?hQ36_1 ?hy36_1 (by assumption) ?rest36_1
                  case hi36_1 => simp only [List.getElem?_toArray, List.getElem?_cons_succ, List.getElem?_cons_zero] <;> rfl
                  case hs36_1 => kernel_rfl
                  case hf36_1 => kernel_rfl
                  case hr36_1 => kernel_rfl
                  case hQ36_1 => exact fun _ _ _ h => h
                  case hy36_1 => exact Or.inr ⟨by kernel_rfl, rfl⟩
                  simp only [Act.put, List.setIfInBounds_toArray, List.set_cons_zero, List.set_cons_succ]
                  refine' wpAnyH_take (i := 37) ?hi37_1 ?hs37_1 ?hf37_1 ?hr37_1 ?hQ37_1 ?hy37_1 (by assumption) ?rest37_1
                  case hi37_1 => simp only [List.getElem?_toArray, List.getElem?_cons_succ, List.getElem?_cons_zero] <;> rfl
                  case hs37_1 => kernel_rfl
                  case hf37_1 => kernel_rfl
                  case hr37_1 => kernel_rfl
                  case hQ37_1 => exact fun _ _ _ h => h
                  case hy37_1 => exact Or.inr ⟨by kernel_rfl, rfl⟩
                  simp only [Act.put, List.setIfInBounds_toArray, List.set_cons_zero, List.set_cons_succ]
                  refine' wpAnyH_take (i := 38) ?hi38_1 ?hs38_1 ?hf38_1 ?hr38_1 ?hQ38_1 ?hy38_1 (by assumption) ?rest38_1
                  case hi38_1 => simp only [List.getElem?_toArray, List.getElem?_cons_succ, List.getElem?_cons_zero] <;> rfl
                  case hs38_1 => kernel_rfl
                  case hf38_1 => kernel_rfl
                  case hr38_1 => kernel_rfl
                  case hQ38_1 => exact fun _ _ _ h => h
                  case hy38_1 => exact Or.inl ⟨by rfl, fun w hSw => by have q0 := cell_keep cr hSw; have q1 := cell_keep cx hSw; have q2 := cell_keep c18 hSw; go_simp <;> (try with_reducible rfl)⟩
                  simp only [Act.put, List.setIfInBounds_toArray, List.set_cons_zero, List.set_cons_succ]
                  refine' wpAnyH_take (i := 39) ?hi39_1 ?hs39_1 ?hf39_1 ?hr39_1 ?hQ39_1 ?hy39_1 (by assumption) ?rest39_1
                  case hi39_1 => simp only [List.getElem?_toArray, List.getElem?_cons_succ, List.getElem?_cons_zero] <;> rfl
                  case hs39_1 => kernel_rfl
                  case hf39_1 => kernel_rfl
                  case hr39_1 => kernel_rfl
                  case hQ39_1 => exact fun _ _ _ h => h
                  case hy39_1 => exact Or.inl ⟨by rfl, fun w hSw => by have q0 := cell_keep cr hSw; have q1 := cell_keep cx hSw; have q2 := cell_keep c18 hSw; go_simp <;> (try with_reducible rfl)⟩
                  simp only [Act.put, List.setIfInBounds_toArray, List.set_cons_zero, List.set_cons_succ]
                  refine wpAnyH_done (by kernel_rfl) ?_ _
                  refine NoPanic.normal ?_
                  go_wp2_with fail
                  go_meet
                  exact ⟨rfl, hHeld⟩
                · have hxb : (x == 0) = false := by simpa using hx0
                  have hxn : (x != 0) = true := by simpa using hx0
                  have hrb : (r == 0) = false := by simpa using (fun e => hx0 (hZ.1 e))
                  clear hZ
                  cases hol : oldB x with
                  | false =>
                    rw [hol] at HOl
                    clear hol
                    refine wp_region_noPanic ?_
                    refine wp_region_held_drew (S := (fun w' => Keeps wo w')) (by kernel_rfl) (Touch.refl _ wo).drew (fun hHeld => ?_)
                    refine' wpAnyH_take (i := 0) ?hi0_2 ?hs0_2 ?hf0_2 ?hr0_2 ?hQ0_2 ?hy0_2 (by assumption) ?rest0_2
                    case hi0_2 => simp only [List.getElem?_toArray, List.getElem?_cons_zero] <;> rfl
                    case hs0_2 => kernel_rfl
                    case hf0_2 => kernel_rfl
                    case hr0_2 => kernel_rfl
                    case hQ0_2 => exact fun _ _ _ h => h
                    case hy0_2 => exact Or.inl ⟨by rfl, fun w hSw => by have q0 := cell_keep cr hSw; have q1 := cell_keep cx hSw; have q2 := cell_keep c18 hSw; go_simp <;> (try with_reducible rfl)⟩
                    simp only [Act.put, List.setIfInBounds_toArray, List.set_cons_zero, List.set_cons_succ]
                    refine' wpAnyH_take (i := 1) ?hi1_2 ?hs1_2 ?hf1_2 ?hr1_2 ?hQ1_2 ?hy1_2 (by assumption) ?rest1_2
                    case hi1_2 => simp only [List.getElem?_toArray, List.getElem?_cons_succ, List.getElem?_cons_zero] <;> rfl
                    case hs1_2 => kernel_rfl
                    case hf1_2 => kernel_rfl
                    case hr1_2 => kernel_rfl
                    case hQ1_2 => exact fun _ _ _ h => h
                    case hy1_2 => exact Or.inl ⟨by rfl, fun w hSw => by have q0 := cell_keep cr hSw; have q1 := cell_keep cx hSw; have q2 := cell_keep c18 hSw; go_simp <;> (try with_reducible rfl)⟩
                    simp only [Act.put, List.setIfInBounds_toArray, List.set_cons_zero, List.set_cons_succ]
                    refine' wpAnyH_take (i := 2) ?hi2_2 ?hs2_2 ?hf2_2 ?hr2_2 ?hQ2_2 ?hy2_2 (by assumption) ?rest2_2
                    case hi2_2 => simp only [List.getElem?_toArray, List.getElem?_cons_succ, List.getElem?_cons_zero] <;> rfl
                    case hs2_2 => kernel_rfl
                    case hf2_2 => kernel_rfl
                    case hr2_2 => kernel_rfl
                    case hQ2_2 => exact fun _ _ _ h => h
                    case hy2_2 => exact Or.inl ⟨by rfl, fun w hSw => by have q0 := cell_keep cr hSw; have q1 := cell_keep cx hSw; have q2 := cell_keep c18 hSw; go_simp <;> (try with_reducible rfl)⟩
                    simp only [Act.put, List.setIfInBounds_toArray, List.set_cons_zero, List.set_cons_succ]
                    refine' wpAnyH_take (i := 3) ?hi3_2 ?hs3_2 ?hf3_2 ?hr3_2 ?hQ3_2 ?hy3_2 (by assumption) ?rest3_2
                    case hi3_2 => simp only [List.getElem?_toArray, List.getElem?_cons_succ, List.getElem?_cons_zero] <;> rfl
                    case hs3_2 => kernel_rfl
                    case hf3_2 => kernel_rfl
                    case hr3_2 => kernel_rfl
                    case hQ3_2 => exact fun _ _ _ h => h
                    case hy3_2 => exact Or.inl ⟨by rfl, fun w hSw => by have q0 := cell_keep cr hSw; have q1 := cell_keep cx hSw; have q2 := cell_keep c18 hSw; go_simp <;> (try with_reducible rfl)⟩
                    simp only [Act.put, List.setIfInBounds_toArray, List.set_cons_zero, List.set_cons_succ]
                    refine' wpAnyH_take (i := 4) ?hi4_2 ?hs4_2 ?hf4_2 ?hr4_2 ?hQ4_2 ?hy4_2 (by assumption) ?rest4_2
                    case hi4_2 => simp only [List.getElem?_toArray, List.getElem?_cons_succ, List.getElem?_cons_zero] <;> rfl
                    case hs4_2 => kernel_rfl
                    case hf4_2 => kernel_rfl
                    case hr4_2 => kernel_rfl
                    case hQ4_2 => exact fun _ _ _ h => h
                    case hy4_2 => exact Or.inl ⟨by rfl, fun w hSw => by have q0 := cell_keep cr hSw; have q1 := cell_keep cx hSw; have q2 := cell_keep c18 hSw; go_simp <;> (try with_reducible rfl)⟩
                    simp only [Act.put, List.setIfInBounds_toArray, List.set_cons_zero, List.set_cons_succ]
                    refine' wpAnyH_take (i := 5) ?hi5_2 ?hs5_2 ?hf5_2 ?hr5_2 ?hQ5_2 ?hy5_2 (by assumption) ?rest5_2
                    case hi5_2 => simp only [List.getElem?_toArray, List.getElem?_cons_succ, List.getElem?_cons_zero] <;> rfl
                    case hs5_2 => kernel_rfl
                    case hf5_2 => kernel_rfl
                    case hr5_2 => kernel_rfl
                    case hQ5_2 => exact fun _ _ _ h => h
                    case hy5_2 => exact Or.inl ⟨by rfl, fun w hSw => by have q0 := cell_keep cr hSw; have q1 := cell_keep cx hSw; have q2 := cell_keep c18 hSw; go_simp <;> (try with_reducible rfl)⟩
                    simp only [Act.put, List.setIfInBounds_toArray, List.set_cons_zero, List.set_cons_succ]
                    refine' wpAnyH_take (i := 6) ?hi6_2 ?hs6_2 ?hf6_2 ?hr6_2 ?hQ6_2 ?hy6_2 (by assumption) ?rest6_2
                    case hi6_2 => simp only [List.getElem?_toArray, List.getElem?_cons_succ, List.getElem?_cons_zero] <;> rfl
                    case hs6_2 => kernel_rfl
                    case hf6_2 => kernel_rfl
                    case hr6_2 => kernel_rfl
                    case hQ6_2 => exact fun _ _ _ h => h
                    case hy6_2 => exact Or.inl ⟨by rfl, fun w hSw => by have q0 := cell_keep cr hSw; have q1 := cell_keep cx hSw; have q2 := cell_keep c18 hSw; go_simp <;> (try with_reducible rfl)⟩
                    simp only [Act.put, List.setIfInBounds_toArray, List.set_cons_zero, List.set_cons_succ]
                    refine' wpAnyH_take (i := 7) ?hi7_2 ?hs7_2 ?hf7_2 ?hr7_2 ?hQ7_2 ?hy7_2 (by assumption) ?rest7_2
                    case hi7_2 => simp only [List.getElem?_toArray, List.getElem?_cons_succ, List.getElem?_cons_zero] <;> rfl
                    case hs7_2 => kernel_rfl
                    case hf7_2 => kernel_rfl
                    case hr7_2 => kernel_rfl
                    case hQ7_2 => exact fun _ _ _ h => h
                    case hy7_2 => exact Or.inl ⟨by rfl, fun w hSw => by have q0 := cell_keep cr hSw; have q1 := cell_keep cx hSw; have q2 := cell_keep c18 hSw; go_simp <;> (try with_reducible rfl)⟩
                    simp only [Act.put, List.setIfInBounds_toArray, List.set_cons_zero, List.set_cons_succ]
                    refine' wpAnyH_take (i := 8) ?hi8_2 ?hs8_2 ?hf8_2 ?hr8_2 ?hQ8_2 ?hy8_2 (by assumption) ?rest8_2
                    case hi8_2 => simp only [List.getElem?_toArray, List.getElem?_cons_succ, List.getElem?_cons_zero] <;> rfl
                    case hs8_2 => kernel_rfl
                    case hf8_2 => kernel_rfl
                    case hr8_2 => kernel_rfl
                    case hQ8_2 => exact fun _ _ _ h => h
                    case hy8_2 => exact Or.inl ⟨by rfl, fun w hSw => by have q0 := cell_keep cr hSw; have q1 := cell_keep cx hSw; have q2 := cell_keep c18 hSw; go_simp <;> (try with_reducible rfl)⟩
                    simp only [Act.put, List.setIfInBounds_toArray, List.set_cons_zero, List.set_cons_succ]
                    refine' wpAnyH_take (i := 9) ?hi9_2 ?hs9_2 ?hf9_2 ?hr9_2 ?hQ9_2 ?hy9_2 (by assumption) ?rest9_2
                    case hi9_2 => simp only [List.getElem?_toArray, List.getElem?_cons_succ, List.getElem?_cons_zero] <;> rfl
                    case hs9_2 => kernel_rfl
                    case hf9_2 => kernel_rfl
                    case hr9_2 => kernel_rfl
                    case hQ9_2 => exact fun _ _ _ h => h
                    case hy9_2 => exact Or.inl ⟨by rfl, fun w hSw => by have q0 := cell_keep cr hSw; have q1 := cell_keep cx hSw; have q2 := cell_keep c18 hSw; go_simp <;> (try with_reducible rfl)⟩
                    simp only [Act.put, List.setIfInBounds_toArray, List.set_cons_zero, List.set_cons_succ]
                    refine' wpAnyH_take (i := 10) ?hi10_2 ?hs10_2 ?hf10_2 ?hr10_2 ?hQ10_2 ?hy10_2 (by assumption) ?rest10_2
                    case hi10_2 => simp only [List.getElem?_toArray, List.getElem?_cons_succ, List.getElem?_cons_zero] <;> rfl
                    case hs10_2 => kernel_rfl
                    case hf10_2 => kernel_rfl
                    case hr10_2 => kernel_rfl
                    case hQ10_2 => exact fun _ _ _ h => h
                    case hy10_2 => exact Or.inl ⟨by rfl, fun w hSw => by have q0 := cell_keep cr hSw; have q1 := cell_keep cx hSw; have q2 := cell_keep c18 hSw; go_simp <;> (try with_reducible rfl)⟩
                    simp only [Act.put, List.setIfInBounds_toArray, List.set_cons_zero, List.set_cons_succ]
                    refine' wpAnyH_take (i := 11) ?hi11_2 ?hs11_2 ?hf11_2 ?hr11_2 ?hQ11_2 ?hy11_2 (by assumption) ?rest11_2
                    case hi11_2 => simp only [List.getElem?_toArray, List.getElem?_cons_succ, List.getElem?_cons_zero] <;> rfl
                    case hs11_2 => kernel_rfl
                    case hf11_2 => kernel_rfl
                    case hr11_2 => kernel_rfl
                    case hQ11_2 => exact fun _ _ _ h => h
                    case hy11_2 => exact Or.inl ⟨by rfl, fun w hSw => by have q0 := cell_keep cr hSw; have q1 := cell_keep cx hSw; have q2 := cell_keep c18 hSw; go_simp <;> (try with_reducible rfl)⟩
                    simp only [Act.put, List.setIfInBounds_toArray, List.set_cons_zero, List.set_cons_succ]
                    refine' wpAnyH_take (i := 12) ?hi12_2 ?hs12_2 ?hf12_2 ?hr12_2 ?hQ12_2 ?hy12_2 (by assumption) ?rest12_2
                    case hi12_2 => simp only [List.getElem?_toArray, List.getElem?_cons_succ, List.getElem?_cons_zero] <;> rfl
                    case hs12_2 => kernel_rfl
                    case hf12_2 => kernel_rfl
                    case hr12_2 => kernel_rfl
                    case hQ12_2 => exact fun _ _ _ h => h
                    case hy12_2 => exact Or.inl ⟨by rfl, fun w hSw => by have q0 := cell_keep cr hSw; have q1 := cell_keep cx hSw; have q2 := cell_keep c18 hSw; go_simp <;> (try with_reducible rfl)⟩
                    simp only [Act.put, List.setIfInBounds_toArray, List.set_cons_zero, List.set_cons_succ]
                    refine' wpAnyH_take (i := 13) ?hi13_2 ?hs13_2 ?hf13_2 ?hr13_2 ?hQ13_2 ?hy13_2 (by assumption) ?rest13_2
                    case hi13_2 => simp only [List.getElem?_toArray, List.getElem?_cons_succ, List.getElem?_cons_zero] <;> rfl
                    case hs13_2 => kernel_rfl
                    case hf13_2 => kernel_rfl
                    case hr13_2 => kernel_rfl
                    case hQ13_2 => exact fun _ _ _ h => h
                    case hy13_2 => exact Or.inl ⟨by rfl, fun w hSw => by have q0 := cell_keep cr hSw; have q1 := cell_keep cx hSw; have q2 := cell_keep c18 hSw; go_simp <;> (try with_reducible rfl)⟩
                    simp only [Act.put, List.setIfInBounds_toArray, List.set_cons_zero, List.set_cons_succ]
                    refine' wpAnyH_take (i := 14) ?hi14_2 ?hs14_2 ?hf14_2 ?hr14_2 ?hQ14_2 ?hy14_2 (by assumption) ?rest14_2
                    case hi14_2 => simp only [List.getElem?_toArray, List.getElem?_cons_succ, List.getElem?_cons_zero] <;> rfl
                    case hs14_2 => kernel_rfl
                    case hf14_2 => kernel_rfl
                    case hr14_2 => kernel_rfl
                    case hQ14_2 => exact fun _ _ _ h => h
                    case hy14_2 => exact Or.inl ⟨by rfl, fun w hSw => by have q0 := cell_keep cr hSw; have q1 := cell_keep cx hSw; have q2 := cell_keep c18 hSw; go_simp <;> (try with_reducible rfl)⟩
                    simp only [Act.put, List.setIfInBounds_toArray, List.set_cons_zero, List.set_cons_succ]
                    refine' wpAnyH_take (i := 15) ?hi15_2 ?hs15_2 ?hf15_2 ?hr15_2 ?hQ15_2 ?hy15_2 (by assumption) ?rest15_2
                    case hi15_2 => simp only [List.getElem?_toArray, List.getElem?_cons_succ, List.getElem?_cons_zero] <;> rfl
                    case hs15_2 => kernel_rfl
                    case hf15_2 => kernel_rfl
                    case hr15_2 => kernel_rfl
                    case hQ15_2 => exact fun _ _ _ h => h
                    case hy15_2 => exact Or.inl ⟨by rfl, fun w hSw => by have q0 := cell_keep cr hSw; have q1 := cell_keep cx hSw; have q2 := cell_keep c18 hSw; go_simp <;> (try with_reducible rfl)⟩
                    simp only [Act.put, List.setIfInBounds_toArray, List.set_cons_zero, List.set_cons_succ]
                    refine' wpAnyH_take (i := 16) ?hi16_2 ?hs16_2 ?hf16_2 ?hr16_2 ?hQ16_2 ?hy16_2 (by assumption) ?rest16_2
                    case hi16_2 => simp only [List.getElem?_toArray, List.getElem?_cons_succ, List.getElem?_cons_zero] <;> rfl
                    case hs16_2 => kernel_rfl
                    case hf16_2 => kernel_rfl
                    case hr16_2 => kernel_rfl
                    case hQ16_2 => exact fun _ _ _ h => h
                    case hy16_2 => exact Or.inl ⟨by rfl, fun w hSw => by have q0 := cell_keep cr hSw; have q1 := cell_keep cx hSw; have q2 := cell_keep c18 hSw; go_simp <;> (try with_reducible rfl)⟩
                    simp only [Act.put, List.setIfInBounds_toArray, List.set_cons_zero, List.set_cons_succ]
                    refine' wpAnyH_take (i := 17) ?hi17_2 ?hs17_2 ?hf17_2 ?hr17_2 ?hQ17_2 ?hy17_2 (by assumption) ?rest17_2
                    case hi17_2 => simp only [List.getElem?_toArray, List.getElem?_cons_succ, List.getElem?_cons_zero] <;> rfl
                    case hs17_2 => kernel_rfl
                    case hf17_2 => kernel_rfl
                    case hr17_2 => kernel_rfl
                    case hQ17_2 => exact fun _ _ _ h => h
                    case hy17_2 => exact Or.inl ⟨by rfl, fun w hSw => by have q0 := cell_keep cr hSw; have q1 := cell_keep cx hSw; have q2 := cell_keep c18 hSw; go_simp <;> (try with_reducible rfl)⟩
                    simp only [Act.put, List.setIfInBounds_toArray, List.set_cons_zero, List.set_cons_succ]
                    refine' wpAnyH_take (i := 18) ?hi18_2 ?hs18_2 ?hf18_2 ?hr18_2 ?hQ18_2 ?hy18_2 (by assumption) ?rest18_2
                    case hi18_2 => simp only [List.getElem?_toArray, List.getElem?_cons_succ, List.getElem?_cons_zero] <;> rfl
                    case hs18_2 => kernel_rfl
                    case hf18_2 => kernel_rfl
                    case hr18_2 => kernel_rfl
                    case hQ18_2 => exact fun _ _ _ h => h
                    case hy18_2 => exact Or.inl ⟨by rfl, fun w hSw => by have q0 := cell_keep cr hSw; have q1 := cell_keep cx hSw; have q2 := cell_keep c18 hSw; go_simp <;> (try with_reducible rfl)⟩
                    simp only [Act.put, List.setIfInBounds_toArray, List.set_cons_zero, List.set_cons_succ]
                    refine' wpAnyH_take (i := 19) ?hi19_2 ?hs19_2 ?hf19_2 ?hr19_2 ?hQ19_2 ?hy19_2 (by assumption) ?rest19_2
                    case hi19_2 => simp only [List.getElem?_toArray, List.getElem?_cons_succ, List.getElem?_cons_zero] <;> rfl
                    case hs19_2 => kernel_rfl
                    case hf19_2 => kernel_rfl
                    case hr19_2 => kernel_rfl
                    case hQ19_2 => exact fun _ _ _ h => h
                    case hy19_2 => exact Or.inl ⟨by rfl, fun w hSw => by have q0 := cell_keep cr hSw; have q1 := cell_keep cx hSw; have q2 := cell_keep c18 hSw; go_simp <;> (try with_reducible rfl)⟩
                    simp only [Act.put, List.setIfInBounds_toArray, List.set_cons_zero, List.set_cons_succ]
                    refine' wpAnyH_take (i := 20) ?hi20_2 ?hs20_2 ?hf20_2 ?hr20_2 ?hQ20_2 ?hy20_2 (by assumption) ?rest20_2
                    case hi20_2 => simp only [List.getElem?_toArray, List.getElem?_cons_succ, List.getElem?_cons_zero] <;> rfl
                    case hs20_2 => kernel_rfl
                    case hf20_2 => kernel_rfl
                    case hr20_2 => kernel_rfl
                    case hQ20_2 => exact fun _ _ _ h => h
                    case hy20_2 => exact Or.inl ⟨by rfl, fun w hSw => by have q0 := cell_keep cr hSw; have q1 := cell_keep cx hSw; have q2 := cell_keep c18 hSw; go_simp <;> (try with_reducible rfl)⟩
                    simp only [Act.put, List.setIfInBounds_toArray, List.set_cons_zero, List.set_cons_succ]
                    refine' wpAnyH_take (i := 21) ?hi21_2 ?hs21_2 ?hf21_2 ?hr21_2 ?hQ21_2 ?hy21_2 (by assumption) ?rest21_2
                    case hi21_2 => simp only [List.getElem?_toArray, List.getElem?_cons_succ, List.getElem?_cons_zero] <;> rfl
                    case hs21_2 => kernel_rfl
                    case hf21_2 => kernel_rfl
                    case hr21_2 => kernel_rfl
                    case hQ21_2 => exact fun _ _ _ h => h
                    case hy21_2 => exact Or.inl ⟨by rfl, fun w hSw => by have q0 := cell_keep cr hSw; have q1 := cell_keep cx hSw; have q2 := cell_keep c18 hSw; go_simp <;> (try with_reducible rfl)⟩
                    simp only [Act.put, List.setIfInBounds_toArray, List.set_cons_zero, List.set_cons_succ]
                    refine' wpAnyH_take (i := 22) ?hi22_2 ?hs22_2 ?hf22_2 ?hr22_2 ?hQ22_2 ?hy22_2 (by assumption) ?rest22_2
                    case hi22_2 => simp only [List.getElem?_toArray, List.getElem?_cons_succ, List.getElem?_cons_zero] <;> rfl
                    case hs22_2 => kernel_rfl
                    case hf22_2 => kernel_rfl
                    case hr22_2 => kernel_rfl
                    case hQ22_2 => exact fun _ _ _ h => h
                    case hy22_2 => exact Or.inl ⟨by rfl, fun w hSw => by have q0 := cell_keep cr hSw; have q1 := cell_keep cx hSw; have q2 := cell_keep c18 hSw; go_simp <;> (try with_reducible rfl)⟩
                    simp only [Act.put, List.setIfInBounds_toArray, List.set_cons_zero, List.set_cons_succ]
                    refine' wpAnyH_take (i := 23) ?hi23_2 ?hs23_2 ?hf23_2 ?hr23_2 ?hQ23_2 ?hy23_2 (by assumption) ?rest23_2
                    case hi23_2 => simp only [List.getElem?_toArray, List.getElem?_cons_succ, List.getElem?_cons_zero] <;> rfl
                    case hs23_2 => kernel_rfl
                    case hf23_2 => kernel_rfl
                    case hr23_2 => kernel_rfl
                    case hQ23_2 => exact fun _ _ _ h => h
                    case hy23_2 => exact Or.inl ⟨by rfl, fun w hSw => by have q0 := cell_keep cr hSw; have q1 := cell_keep cx hSw; have q2 := cell_keep c18 hSw; go_simp <;> (try with_reducible rfl)⟩
                    simp only [Act.put, List.setIfInBounds_toArray, List.set_cons_zero, List.set_cons_succ]
                    refine' wpAnyH_take (i := 24) ?hi24_2 ?hs24_2 ?hf24_2 ?hr24_2 ?hQ24_2 ?hy24_2 (by assumption) ?rest24_2
                    case hi24_2 => simp only [List.getElem?_toArray, List.getElem?_cons_succ, List.getElem?_cons_zero] <;> rfl
                    case hs24_2 => kernel_rfl
                    case hf24_2 => kernel_rfl
                    case hr24_2 => kernel_rfl
                    case hQ24_2 => exact fun _ _ _ h => h
                    case hy24_2 => exact Or.inl ⟨by rfl, fun w hSw => by have q0 := cell_keep cr hSw; have q1 := cell_keep cx hSw; have q2 := cell_keep c18 hSw; go_simp <;> (try with_reducible rfl)⟩
                    simp only [Act.put, List.setIfInBounds_toArray, List.set_cons_zero, List.set_cons_succ]
                    refine wpAnyH_ready (rs := [25]) (by kernel_rfl) (by simp) ?_
                    refine AllReadyH.cons rfl (fun K hK => ?_) AllReadyH.nil
                    go_simp
                    with_reducible refine Calls.mono (HOl.out _) ?_
                    rintro e w14 ⟨rfl, k14⟩
                    go_wp2_with fail
                    refine hK.out _ _ (Keeps.trans hHeld k14) (fun hHeld => ?_)
                    clear hK K
                    try simp only [Act.put, List.setIfInBounds_toArray, List.set_cons_zero, List.set_cons_succ]
                    refine' wpAnyH_take (i := 26) ?hi26_2 ?hs26_2 ?hf26_2 ?hr26_2 ?hQ26_2 ?hy26_2 (by assumption) ?rest26_2
                    case hi26_2 => simp only [List.getElem?_toArray, List.getElem?_cons_succ, List.getElem?_cons_zero] <;> rfl
                    case hs26_2 => kernel_rfl
                    case hf26_2 => kernel_rfl
                    case hr26_2 => kernel_rfl
                    case hQ26_2 => exact fun _ _ _ h => h
                    case hy26_2 => exact Or.inl ⟨by rfl, fun w hSw => by have q0 := cell_keep cr hSw; have q1 := cell_keep cx hSw; have q2 := cell_keep c18 hSw; go_simp <;> (try with_reducible rfl)⟩
                    simp only [Act.put, List.setIfInBounds_toArray, List.set_cons_zero, List.set_cons_succ]
                    refine' wpAnyH_take (i := 27) ?hi27_2 ?hs27_2 ?hf27_2 ?hr27_2 ?hQ27_2 ?hy27_2 (by assumption) ?rest27_2
                    case hi27_2 => simp only [List.getElem?_toArray, List.getElem?_cons_succ, List.getElem?_cons_zero] <;> rfl
                    case hs27_2 => kernel_rfl
                    case hf27_2 => kernel_rfl
                    case hr27_2 => kernel_rfl
                    case hQ27_2 => exact fun _ _ _ h => h
                    case hy27_2 => exact Or.inl ⟨by rfl, fun w hSw => by have q0 := cell_keep cr hSw; have q1 := cell_keep cx hSw; have q2 := cell_keep c18 hSw; go_simp <;> (try with_reducible rfl)⟩
                    simp only [Act.put, List.setIfInBounds_toArray, List.set_cons_zero, List.set_cons_succ]
                    refine' wpAnyH_take (i := 28) ?hi28_2 ?hs28_2 ?hf28_2 ?hr28_2 ?hQ28_2 ?hy28_2 (by assumption) ?rest28_2
                    case hi28_2 => simp only [List.getElem?_toArray, List.getElem?_cons_succ, List.getElem?_cons_zero] <;> rfl
                    case hs28_2 => kernel_rfl
                    case hf28_2 => kernel_rfl
                    case hr28_2 => kernel_rfl
                    case hQ28_2 => exact fun _ _ _ h => h
                    case hy28_2 => exact Or.inr ⟨by kernel_rfl, rfl⟩
                    simp only [Act.put, List.setIfInBounds_toArray, List.set_cons_zero, List.set_cons_succ]
                    refine' wpAnyH_take (i := 29) ?hi29_2 ?hs29_2 ?hf29_2 ?hr29_2 ?hQ29_2 ?hy29_2 (by assumption) ?rest29_2
                    case hi29_2 => simp only [List.getElem?_toArray, List.getElem?_cons_succ, List.getElem?_cons_zero] <;> rfl
                    case hs29_2 => kernel_rfl
                    case hf29_2 => kernel_rfl
                    case hr29_2 => kernel_rfl
                    case hQ29_2 => exact fun _ _ _ h => h
                    case hy29_2 => exact Or.inr ⟨by kernel_rfl, rfl⟩
                    simp only [Act.put, List.setIfInBounds_toArray, List.set_cons_zero, List.set_cons_succ]
                    refine' wpAnyH_take (i := 30) ?hi30_2 ?hs30_2 ?hf30_2 ?hr30_2 ?hQ30_2 ?hy30_2 (by assumption) ?rest30_2
                    case hi30_2 => simp only [List.getElem?_toArray, List.getElem?_cons_succ, List.getElem?_cons_zero] <;> rfl
                    case hs30_2 => kernel_rfl
                    case hf30_2 => kernel_rfl
                    case hr30_2 => kernel_rfl
                    case hQ30_2 => exact fun _ _ _ h => h
                    case hy30_2 => exact Or.inr ⟨by kernel_rfl, rfl⟩
                    simp only [Act.put, List.setIfInBounds_toArray, List.set_cons_zero, List.set_cons_succ]
                    refine' wpAnyH_take (i := 31) ?hi31_2 ?hs31_2 ?hf31_2 ?hr31_2 ?hQ31_2 ?hy31_2 (by assumption) ?rest31_2
                    case hi31_2 => simp only [List.getElem?_toArray, List.getElem?_cons_succ, List.getElem?_cons_zero] <;> rfl
                    case hs31_2 => kernel_rfl
                    case hf31_2 => kernel_rfl
                    case hr31_2 => kernel_rfl
                    case hQ31_2 => exact fun _ _ _ h => h
                    case hy31_2 => exact Or.inr ⟨by kernel_rfl, rfl⟩
                    simp only [Act.put, List.setIfInBounds_toArray, List.set_cons_zero, List.set_cons_succ]
                    refine' wpAnyH_take (i := 32) ?hi32_2 ?hs32_2 ?hf32_2 ?hr32_2 ?hQ32_2 ?hy32_2 (by assumption) ?rest32_2
                    case hi32_2 => simp only [List.getElem?_toArray, List.getElem?_cons_succ, List.getElem?_cons_zero] <;> rfl
                    case hs32_2 => kernel_rfl
                    case hf32_2 => kernel_rfl
                    case hr32_2 => kernel_rfl
                    case hQ32_2 => exact fun _ _ _ h => h
                    case hy32_2 => exact Or.inr ⟨by kernel_rfl, rfl⟩
                    simp only [Act.put, List.setIfInBounds_toArray, List.set_cons_zero, List.set_cons_succ]
                    refine' wpAnyH_take (i := 33) ?hi33_2 ?hs33_2 ?hf33_2 ?hr33_2 ?hQ33_2 ?hy33_2 (by assumption) ?rest33_2
                    case hi33_2 => simp only [List.getElem?_toArray, List.getElem?_cons_succ, List.getElem?_cons_zero] <;> rfl
                    case hs33_2 => kernel_rfl
                    case hf33_2 => kernel_rfl
                    case hr33_2 => kernel_rfl
                    case hQ33_2 => exact fun _ _ _ h => h
                    case hy33_2 => exact Or.inr ⟨by kernel_rfl, rfl⟩
                    simp only [Act.put, List.setIfInBounds_toArray, List.set_cons_zero, List.set_cons_succ]
                    refine' wpAnyH_take (i := 34) ?hi34_2 ?hs34_2 ?hf34_2 ?hr34_2 ?hQ34_2 ?hy34_2 (by assumption) ?rest34_2
                    case hi34_2 => simp only [List.getElem?_toArray, List.getElem?_cons_succ, List.getElem?_cons_zero] <;> rfl
                    case hs34_2 => kernel_rfl
                    case hf34_2 => kernel_rfl
                    case hr34_2 => kernel_rfl
                    case hQ34_2 => exact fun _ _ _ h => h
                    case hy34_2 => exact Or.inr ⟨by kernel_rfl, rfl⟩
                    simp only [Act.put, List.setIfInBounds_toArray, List.set_cons_zero, List.set_cons_succ]
                    refine' wpAnyH_take (i := 35) ?hi35_2 ?hs35_2 ?hf35_2 ?hr35_2 ?hQ35_2 ?hy35_2 (by assumption) ?rest35_2
                    case hi35_2 => simp only [List.getElem?_toArray, List.getElem?_cons_succ, List.getElem?_cons_zero] <;> rfl
                    case hs35_2 => kernel_rfl
                    case hf35_2 => kernel_rfl
                    case hr35_2 => kernel_rfl
                    case hQ35_2 => exact fun _ _ _ h => h
                    case hy35_2 => exact Or.inr ⟨by kernel_rfl, rfl⟩
                    simp only [Act.put, List.setIfInBounds_toArray, List.set_cons_zero, List.set_cons_succ]
                    refine' wpAnyH_take (i := 36) ?hi36_2 ?hs36_2 ?hf36_2 ?hr36_2 ?hQ36_2 ?hy36_2 (by assumption) ?rest36_2
                    case hi36_2 => simp only [List.getElem?_toArray, List.getElem?_cons_succ, List.getElem?_cons_zero] <;> rfl
                    case hs36_2 => kernel_rfl
                    case hf36_2 => kernel_rfl
                    case hr36_2 => kernel_rfl
                    case hQ36_2 => exact fun _ _ _ h => h
                    case hy36_2 => exact Or.inr ⟨by kernel_rfl, rfl⟩
                    simp only [Act.put, List.setIfInBounds_toArray, List.set_cons_zero, List.set_cons_succ]
                    refine' wpAnyH_take (i := 37) ?hi37_2 ?hs37_2 ?hf37_2 ?hr37_2 ?hQ37_2 ?hy37_2 (by assumption) ?rest37_2
                    case hi37_2 => simp only [List.getElem?_toArray, List.getElem?_cons_succ, List.getElem?_cons_zero] <;> rfl
                    case hs37_2 => kernel_rfl
                    case hf37_2 => kernel_rfl
                    case hr37_2 => kernel_rfl
                    case hQ37_2 => exact fun _ _ _ h => h
                    case hy37_2 => exact Or.inr ⟨by kernel_rfl, rfl⟩
                    simp only [Act.put, List.setIfInBounds_toArray, List.set_cons_zero, List.set_cons_succ]
                    refine' wpAnyH_take (i := 38) ?hi38_2 ?hs38_2 ?hf38_2 ?hr38_2 ?hQ38_2 ?hy38_2 (by assumption) ?rest38_2
                    case hi38_2 => simp only [List.getElem?_toArray, List.getElem?_cons_succ, List.getElem?_cons_zero] <;> rfl
                    case hs38_2 => kernel_rfl
                    case hf38_2 => kernel_rfl
                    case hr38_2 => kernel_rfl
                    case hQ38_2 => exact fun _ _ _ h => h
                    case hy38_2 => exact Or.inl ⟨by rfl, fun w hSw => by have q0 := cell_keep cr hSw; have q1 := cell_keep cx hSw; have q2 := cell_keep c18 hSw; go_simp <;> (try with_reducible rfl)⟩
                    simp only [Act.put, List.setIfInBounds_toArray, List.set_cons_zero, List.set_cons_succ]
                    refine' wpAnyH_take (i := 39) ?hi39_2 ?hs39_2 ?hf39_2 ?hr39_2 ?hQ39_2 ?hy39_2 (by assumption) ?rest39_2
                    case hi39_2 => simp only [List.getElem?_toArray, List.getElem?_cons_succ, List.getElem?_cons_zero] <;> rfl
                    case hs39_2 => kernel_rfl
                    case hf39_2 => kernel_rfl
                    case hr39_2 => kernel_rfl
                    case hQ39_2 => exact fun _ _ _ h => h
                    case hy39_2 => exact Or.inl ⟨by rfl, fun w hSw => by have q0 := cell_keep cr hSw; have q1 := cell_keep cx hSw; have q2 := cell_keep c18 hSw; go_simp <;> (try with_reducible rfl)⟩
                    simp only [Act.put, List.setIfInBounds_toArray, List.set_cons_zero, List.set_cons_succ]
                    refine wpAnyH_done (by kernel_rfl) ?_ _
                    refine NoPanic.normal ?_
                    go_wp2_with fail
                    go_meet
                    exact ⟨rfl, hHeld⟩
                  | true =>
                    rw [hol] at HOl
                    have hrx := HOd.out hol
                    subst hrx
                    clear hol
                    refine wp_region_noPanic ?_
                    refine wp_region_held_drew (S := (fun w' => Keeps wo w')) (by kernel_rfl) (Touch.refl _ wo).drew (fun hHeld => ?_)
                    refine' wpAnyH_take (i := 0) ?hi0_3 ?hs0_3 ?hf0_3 ?hr0_3 ?hQ0_3 ?hy0_3 (by assumption) ?rest0_3
                    case hi0_3 => simp only [List.getElem?_toArray, List.getElem?_cons_zero] <;> rfl
                    case hs0_3 => kernel_rfl
                    case hf0_3 => kernel_rfl
                    case hr0_3 => kernel_rfl
                    case hQ0_3 => exact fun _ _ _ h => h
                    case hy0_3 => exact Or.inl ⟨by rfl, fun w hSw => by have q0 := cell_keep cr hSw; have q1 := cell_keep cx hSw; have q2 := cell_keep c18 hSw; go_simp <;> (try with_reducible rfl)⟩
                    simp only [Act.put, List.setIfInBounds_toArray, List.set_cons_zero, List.set_cons_succ]
                    refine' wpAnyH_take (i := 1) ?hi1_3 ?hs1_3 ?hf1_3 ?hr1_3 ?hQ1_3 ?hy1_3 (by assumption) ?rest1_3
                    case hi1_3 => simp only [List.getElem?_toArray, List.getElem?_cons_succ, List.getElem?_cons_zero] <;> rfl
                    case hs1_3 => kernel_rfl
                    case hf1_3 => kernel_rfl
                    case hr1_3 => kernel_rfl
                    case hQ1_3 => exact fun _ _ _ h => h
                    case hy1_3 => exact Or.inl ⟨by rfl, fun w hSw => by have q0 := cell_keep cr hSw; have q1 := cell_keep cx hSw; have q2 := cell_keep c18 hSw; go_simp <;> (try with_reducible rfl)⟩
                    simp only [Act.put, List.setIfInBounds_toArray, List.set_cons_zero, List.set_cons_succ]
                    refine' wpAnyH_take (i := 2) ?hi2_3 ?hs2_3 ?hf2_3 ?hr2_3 ?hQ2_3 ?hy2_3 (by assumption) ?rest2_3
                    case hi2_3 => simp only [List.getElem?_toArray, List.getElem?_cons_succ, List.getElem?_cons_zero] <;> rfl
                    case hs2_3 => kernel_rfl
                    case hf2_3 => kernel_rfl
                    case hr2_3 => kernel_rfl
                    case hQ2_3 => exact fun _ _ _ h => h
                    case hy2_3 => exact Or.inl ⟨by rfl, fun w hSw => by have q0 := cell_keep cr hSw; have q1 := cell_keep cx hSw; have q2 := cell_keep c18 hSw; go_simp <;> (try with_reducible rfl)⟩
                    simp only [Act.put, List.setIfInBounds_toArray, List.set_cons_zero, List.set_cons_succ]
                    refine' wpAnyH_take (i := 3) ?hi3_3 ?hs3_3 ?hf3_3 ?hr3_3 ?hQ3_3 ?hy3_3 (by assumption) ?rest3_3
                    case hi3_3 => simp only [List.getElem?_toArray, List.getElem?_cons_succ, List.getElem?_cons_zero] <;> rfl
                    case hs3_3 => kernel_rfl
                    case hf3_3 => kernel_rfl
                    case hr3_3 => kernel_rfl
                    case hQ3_3 => exact fun _ _ _ h => h
                    case hy3_3 => exact Or.inl ⟨by rfl, fun w hSw => by have q0 := cell_keep cr hSw; have q1 := cell_keep cx hSw; have q2 := cell_keep c18 hSw; go_simp <;> (try with_reducible rfl)⟩
                    simp only [Act.put, List.setIfInBounds_toArray, List.set_cons_zero, List.set_cons_succ]
                    refine' wpAnyH_take (i := 4) ?hi4_3 ?hs4_3 ?hf4_3 ?hr4_3 ?hQ4_3 ?hy4_3 (by assumption) ?rest4_3
                    case hi4_3 => simp only [List.getElem?_toArray, List.getElem?_cons_succ, List.getElem?_cons_zero] <;> rfl
                    case hs4_3 => kernel_rfl
                    case hf4_3 => kernel_rfl
                    case hr4_3 => kernel_rfl
                    case hQ4_3 => exact fun _ _ _ h => h
                    case hy4_3 => exact Or.inl ⟨by rfl, fun w hSw => by have q0 := cell_keep cr hSw; have q1 := cell_keep cx hSw; have q2 := cell_keep c18 hSw; go_simp <;> (try with_reducible rfl)⟩
                    simp only [Act.put, List.setIfInBounds_toArray, List.set_cons_zero, List.set_cons_succ]
                    refine' wpAnyH_take (i := 5) ?hi5_3 ?hs5_3 ?hf5_3 ?hr5_3 ?hQ5_3 ?hy5_3 (by assumption) ?rest5_3
                    case hi5_3 => simp only [List.getElem?_toArray, List.getElem?_cons_succ, List.getElem?_cons_zero] <;> rfl
                    case hs5_3 => kernel_rfl
                    case hf5_3 => kernel_rfl
                    case hr5_3 => kernel_rfl
                    case hQ5_3 => exact fun _ _ _ h => h
                    case hy5_3 => exact Or.inl ⟨by rfl, fun w hSw => by have q0 := cell_keep cr hSw; have q1 := cell_keep cx hSw; have q2 := cell_keep c18 hSw; go_simp <;> (try with_reducible rfl)⟩
                    simp only [Act.put, List.setIfInBounds_toArray, List.set_cons_zero, List.set_cons_succ]
                    refine' wpAnyH_take (i := 6) ?hi6_3 ?hs6_3 ?hf6_3 ?hr6_3 ?hQ6_3 ?hy6_3 (by assumption) ?rest6_3
                    case hi6_3 => simp only [List.getElem?_toArray, List.getElem?_cons_succ, List.getElem?_cons_zero] <;> rfl
                    case hs6_3 => kernel_rfl
                    case hf6_3 => kernel_rfl
                    case hr6_3 => kernel_rfl
                    case hQ6_3 => exact fun _ _ _ h => h
                    case hy6_3 => exact Or.inl ⟨by rfl, fun w hSw => by have q0 := cell_keep cr hSw; have q1 := cell_keep cx hSw; have q2 := cell_keep c18 hSw; go_simp <;> (try with_reducible rfl)⟩
                    simp only [Act.put, List.setIfInBounds_toArray, List.set_cons_zero, List.set_cons_succ]
                    refine' wpAnyH_take (i := 7) ?hi7_3 ?hs7_3 ?hf7_3 ?hr7_3 ?hQ7_3 ?hy7_3 (by assumption) ?rest7_3
                    case hi7_3 => simp only [List.getElem?_toArray, List.getElem?_cons_succ, List.getElem?_cons_zero] <;> rfl
                    case hs7_3 => kernel_rfl
                    case hf7_3 => kernel_rfl
                    case hr7_3 => kernel_rfl
                    case hQ7_3 => exact fun _ _ _ h => h
                    case hy7_3 => exact Or.inl ⟨by rfl, fun w hSw => by have q0 := cell_keep cr hSw; have q1 := cell_keep cx hSw; have q2 := cell_keep c18 hSw; go_simp <;> (try with_reducible rfl)⟩
                    simp only [Act.put, List.setIfInBounds_toArray, List.set_cons_zero, List.set_cons_succ]
                    refine' wpAnyH_take (i := 8) ?hi8_3 ?hs8_3 ?hf8_3 ?hr8_3 ?hQ8_3 ?hy8_3 (by assumption) ?rest8_3
                    case hi8_3 => simp only [List.getElem?_toArray, List.getElem?_cons_succ, List.getElem?_cons_zero] <;> rfl
                    case hs8_3 => kernel_rfl
                    case hf8_3 => kernel_rfl
                    case hr8_3 => kernel_rfl
                    case hQ8_3 => exact fun _ _ _ h => h
                    case hy8_3 => exact Or.inl ⟨by rfl, fun w hSw => by have q0 := cell_keep cr hSw; have q1 := cell_keep cx hSw; have q2 := cell_keep c18 hSw; go_simp <;> (try with_reducible rfl)⟩
                    simp only [Act.put, List.setIfInBounds_toArray, List.set_cons_zero, List.set_cons_succ]
                    refine' wpAnyH_take (i := 9) ?hi9_3 ?hs9_3 ?hf9_3 ?hr9_3 ?hQ9_3 ?hy9_3 (by assumption) ?rest9_3
                    case hi9_3 => simp only [List.getElem?_toArray, List.getElem?_cons_succ, List.getElem?_cons_zero] <;> rfl
                    case hs9_3 => kernel_rfl
                    case hf9_3 => kernel_rfl
                    case hr9_3 => kernel_rfl
                    case hQ9_3 => exact fun _ _ _ h => h
                    case hy9_3 => exact Or.inl ⟨by rfl, fun w hSw => by have q0 := cell_keep cr hSw; have q1 := cell_keep cx hSw; have q2 := cell_keep c18 hSw; go_simp <;> (try with_reducible rfl)⟩
                    simp only [Act.put, List.setIfInBounds_toArray, List.set_cons_zero, List.set_cons_succ]
                    refine' wpAnyH_take (i := 10) ?hi10_3 ?hs10_3 ?hf10_3 ?hr10_3 ?hQ10_3 ?hy10_3 (by assumption) ?rest10_3
                    case hi10_3 => simp only [List.getElem?_toArray, List.getElem?_cons_succ, List.getElem?_cons_zero] <;> rfl
                    case hs10_3 => kernel_rfl
                    case hf10_3 => kernel_rfl
                    case hr10_3 => kernel_rfl
                    case hQ10_3 => exact fun _ _ _ h => h
                    case hy10_3 => exact Or.inl ⟨by rfl, fun w hSw => by have q0 := cell_keep cr hSw; have q1 := cell_keep cx hSw; have q2 := cell_keep c18 hSw; go_simp <;> (try with_reducible rfl)⟩
                    simp only [Act.put, List.setIfInBounds_toArray, List.set_cons_zero, List.set_cons_succ]
                    refine' wpAnyH_take (i := 11) ?hi11_3 ?hs11_3 ?hf11_3 ?hr11_3 ?hQ11_3 ?hy11_3 (by assumption) ?rest11_3
                    case hi11_3 => simp only [List.getElem?_toArray, List.getElem?_cons_succ, List.getElem?_cons_zero] <;> rfl
                    case hs11_3 => kernel_rfl
                    case hf11_3 => kernel_rfl
                    case hr11_3 => kernel_rfl
                    case hQ11_3 => exact fun _ _ _ h => h
                    case hy11_3 => exact Or.inl ⟨by rfl, fun w hSw => by have q0 := cell_keep cr hSw; have q1 := cell_keep cx hSw; have q2 := cell_keep c18 hSw; go_simp <;> (try with_reducible rfl)⟩
                    simp only [Act.put, List.setIfInBounds_toArray, List.set_cons_zero, List.set_cons_succ]
                    refine' wpAnyH_take (i := 12) ?hi12_3 ?hs12_3 ?hf12_3 ?hr12_3 ?hQ12_3 ?hy12_3 (by assumption) ?rest12_3
                    case hi12_3 => simp only [List.getElem?_toArray, List.getElem?_cons_succ, List.getElem?_cons_zero] <;> rfl
                    case hs12_3 => kernel_rfl
                    case hf12_3 => kernel_rfl
                    case hr12_3 => kernel_rfl
                    case hQ12_3 => exact fun _ _ _ h => h
                    case hy12_3 => exact Or.inl ⟨by rfl, fun w hSw => by have q0 := cell_keep cr hSw; have q1 := cell_keep cx hSw; have q2 := cell_keep c18 hSw; go_simp <;> (try with_reducible rfl)⟩
                    simp only [Act.put, List.setIfInBounds_toArray, List.set_cons_zero, List.set_cons_succ]
                    refine' wpAnyH_take (i := 13) ?hi13_3 ?hs13_3 ?hf13_3 ?hr13_3 ?hQ13_3 ?hy13_3 (by assumption) ?rest13_3
                    case hi13_3 => simp only [List.getElem?_toArray, List.getElem?_cons_succ, List.getElem?_cons_zero] <;> rfl
                    case hs13_3 => kernel_rfl
                    case hf13_3 => kernel_rfl
                    case hr13_3 => kernel_rfl
                    case hQ13_3 => exact fun _ _ _ h => h
                    case hy13_3 => exact Or.inl ⟨by rfl, fun w hSw => by have q0 := cell_keep cr hSw; have q1 := cell_keep cx hSw; have q2 := cell_keep c18 hSw; go_simp <;> (try with_reducible rfl)⟩
                    simp only [Act.put, List.setIfInBounds_toArray, List.set_cons_zero, List.set_cons_succ]
                    refine' wpAnyH_take (i := 14) ?hi14_3 ?hs14_3 ?hf14_3 ?hr14_3 ?hQ14_3 ?hy14_3 (by assumption) ?rest14_3
                    case hi14_3 => simp only [List.getElem?_toArray, List.getElem?_cons_succ, List.getElem?_cons_zero] <;> rfl
                    case hs14_3 => kernel_rfl
                    case hf14_3 => kernel_rfl
                    case hr14_3 => kernel_rfl
                    case hQ14_3 => exact fun _ _ _ h => h
                    case hy14_3 => exact Or.inl ⟨by rfl, fun w hSw => by have q0 := cell_keep cr hSw; have q1 := cell_keep cx hSw; have q2 := cell_keep c18 hSw; go_simp <;> (try with_reducible rfl)⟩
                    simp only [Act.put, List.setIfInBounds_toArray, List.set_cons_zero, List.set_cons_succ]
                    refine' wpAnyH_take (i := 15) ?hi15_3 ?hs15_3 ?hf15_3 ?hr15_3 ?hQ15_3 ?hy15_3 (by assumption) ?rest15_3
                    case hi15_3 => simp only [List.getElem?_toArray, List.getElem?_cons_succ, List.getElem?_cons_zero] <;> rfl
                    case hs15_3 => kernel_rfl
                    case hf15_3 => kernel_rfl
                    case hr15_3 => kernel_rfl
                    case hQ15_3 => exact fun _ _ _ h => h
                    case hy15_3 => exact Or.inl ⟨by rfl, fun w hSw => by have q0 := cell_keep cr hSw; have q1 := cell_keep cx hSw; have q2 := cell_keep c18 hSw; go_simp <;> (try with_reducible rfl)⟩
                    simp only [Act.put, List.setIfInBounds_toArray, List.set_cons_zero, List.set_cons_succ]
                    refine' wpAnyH_take (i := 16) ?hi16_3 ?hs16_3 ?hf16_3 ?hr16_3 ?hQ16_3 ?hy16_3 (by assumption) ?rest16_3
                    case hi16_3 => simp only [List.getElem?_toArray, List.getElem?_cons_succ, List.getElem?_cons_zero] <;> rfl
                    case hs16_3 => kernel_rfl
                    case hf16_3 => kernel_rfl
                    case hr16_3 => kernel_rfl
                    case hQ16_3 => exact fun _ _ _ h => h
                    case hy16_3 => exact Or.inl ⟨by rfl, fun w hSw => by have q0 := cell_keep cr hSw; have q1 := cell_keep cx hSw; have q2 := cell_keep c18 hSw; go_simp <;> (try with_reducible rfl)⟩
                    simp only [Act.put, List.setIfInBounds_toArray, List.set_cons_zero, List.set_cons_succ]
                    refine' wpAnyH_take (i := 17) ?hi17_3 ?hs17_3 ?hf17_3 ?hr17_3 ?hQ17_3 ?hy17_3 (by assumption) ?rest17_3
                    case hi17_3 => simp only [List.getElem?_toArray, List.getElem?_cons_succ, List.getElem?_cons_zero] <;> rfl
                    case hs17_3 => kernel_rfl
                    case hf17_3 => kernel_rfl
                    case hr17_3 => kernel_rfl
                    case hQ17_3 => exact fun _ _ _ h => h
                    case hy17_3 => exact Or.inl ⟨by rfl, fun w hSw => by have q0 := cell_keep cr hSw; have q1 := cell_keep cx hSw; have q2 := cell_keep c18 hSw; go_simp <;> (try with_reducible rfl)⟩
                    simp only [Act.put, List.setIfInBounds_toArray, List.set_cons_zero, List.set_cons_succ]
                    refine' wpAnyH_take (i := 18) ?hi18_3 ?hs18_3 ?hf18_3 ?hr18_3 ?hQ18_3 ?hy18_3 (by assumption) ?rest18_3
                    case hi18_3 => simp only [List.getElem?_toArray, List.getElem?_cons_succ, List.getElem?_cons_zero] <;> rfl
                    case hs18_3 => kernel_rfl
                    case hf18_3 => kernel_rfl
                    case hr18_3 => kernel_rfl
                    case hQ18_3 => exact fun _ _ _ h => h
                    case hy18_3 => exact Or.inl ⟨by rfl, fun w hSw => by have q0 := cell_keep cr hSw; have q1 := cell_keep cx hSw; have q2 := cell_keep c18 hSw; go_simp <;> (try with_reducible rfl)⟩
                    simp only [Act.put, List.setIfInBounds_toArray, List.set_cons_zero, List.set_cons_succ]
                    refine' wpAnyH_take (i := 19) ?hi19_3 ?hs19_3 ?hf19_3 ?hr19_3 ?hQ19_3 ?hy19_3 (by assumption) ?rest19_3
                    case hi19_3 => simp only [List.getElem?_toArray, List.getElem?_cons_succ, List.getElem?_cons_zero] <;> rfl
                    case hs19_3 => kernel_rfl
                    case hf19_3 => kernel_rfl
                    case hr19_3 => kernel_rfl
                    case hQ19_3 => exact fun _ _ _ h => h
                    case hy19_3 => exact Or.inl ⟨by rfl, fun w hSw => by have q0 := cell_keep cr hSw; have q1 := cell_keep cx hSw; have q2 := cell_keep c18 hSw; go_simp <;> (try with_reducible rfl)⟩
                    simp only [Act.put, List.setIfInBounds_toArray, List.set_cons_zero, List.set_cons_succ]
                    refine' wpAnyH_take (i := 20) ?hi20_3 ?hs20_3 ?hf20_3 ?hr20_3 ?hQ20_3 ?hy20_3 (by assumption) ?rest20_3
                    case hi20_3 => simp only [List.getElem?_toArray, List.getElem?_cons_succ, List.getElem?_cons_zero] <;> rfl
                    case hs20_3 => kernel_rfl
                    case hf20_3 => kernel_rfl
                    case hr20_3 => kernel_rfl
                    case hQ20_3 => exact fun _ _ _ h => h
                    case hy20_3 => exact Or.inl ⟨by rfl, fun w hSw => by have q0 := cell_keep cr hSw; have q1 := cell_keep cx hSw; have q2 := cell_keep c18 hSw; go_simp <;> (try with_reducible rfl)⟩
                    simp only [Act.put, List.setIfInBounds_toArray, List.set_cons_zero, List.set_cons_succ]
                    refine' wpAnyH_take (i := 21) ?hi21_3 ?hs21_3 ?hf21_3 ?hr21_3 ?hQ21_3 ?hy21_3 (by assumption) ?rest21_3
                    case hi21_3 => simp only [List.getElem?_toArray, List.getElem?_cons_succ, List.getElem?_cons_zero] <;> rfl
                    case hs21_3 => kernel_rfl
                    case hf21_3 => kernel_rfl
                    case hr21_3 => kernel_rfl
                    case hQ21_3 => exact fun _ _ _ h => h
                    case hy21_3 => exact Or.inl ⟨by rfl, fun w hSw => by have q0 := cell_keep cr hSw; have q1 := cell_keep cx hSw; have q2 := cell_keep c18 hSw; go_simp <;> (try with_reducible rfl)⟩
                    simp only [Act.put, List.setIfInBounds_toArray, List.set_cons_zero, List.set_cons_succ]
                    refine' wpAnyH_take (i := 22) ?hi22_3 ?hs22_3 ?hf22_3 ?hr22_3 ?hQ22_3 ?hy22_3 (by assumption) ?rest22_3
                    case hi22_3 => simp only [List.getElem?_toArray, List.getElem?_cons_succ, List.getElem?_cons_zero] <;> rfl
                    case hs22_3 => kernel_rfl
                    case hf22_3 => kernel_rfl
                    case hr22_3 => kernel_rfl
                    case hQ22_3 => exact fun _ _ _ h => h
                    case hy22_3 => exact Or.inl ⟨by rfl, fun w hSw => by have q0 := cell_keep cr hSw; have q1 := cell_keep cx hSw; have q2 := cell_keep c18 hSw; go_simp <;> (try with_reducible rfl)⟩
                    simp only [Act.put, List.setIfInBounds_toArray, List.set_cons_zero, List.set_cons_succ]
                    refine' wpAnyH_take (i := 23) ?hi23_3 ?hs23_3 ?hf23_3 ?hr23_3 ?hQ23_3 ?hy23_3 (by assumption) ?rest23_3
                    case hi23_3 => simp only [List.getElem?_toArray, List.getElem?_cons_succ, List.getElem?_cons_zero] <;> rfl
                    case hs23_3 => kernel_rfl
                    case hf23_3 => kernel_rfl
                    case hr23_3 => kernel_rfl
                    case hQ23_3 => exact fun _ _ _ h => h
                    case hy23_3 => exact Or.inl ⟨by rfl, fun w hSw => by have q0 := cell_keep cr hSw; have q1 := cell_keep cx hSw; have q2 := cell_keep c18 hSw; go_simp <;> (try with_reducible rfl)⟩
                    simp only [Act.put, List.setIfInBounds_toArray, List.set_cons_zero, List.set_cons_succ]
                    refine' wpAnyH_take (i := 24) ?hi24_3 ?hs24_3 ?hf24_3 ?hr24_3 ?hQ24_3 ?hy24_3 (by assumption) ?rest24_3
                    case hi24_3 => simp only [List.getElem?_toArray, List.getElem?_cons_succ, List.getElem?_cons_zero] <;> rfl
                    case hs24_3 => kernel_rfl
                    case hf24_3 => kernel_rfl
                    case hr24_3 => kernel_rfl
                    case hQ24_3 => exact fun _ _ _ h => h
                    case hy24_3 => exact Or.inl ⟨by rfl, fun w hSw => by have q0 := cell_keep cr hSw; have q1 := cell_keep cx hSw; have q2 := cell_keep c18 hSw; go_simp <;> (try with_reducible rfl)⟩
                    simp only [Act.put, List.setIfInBounds_toArray, List.set_cons_zero, List.set_cons_succ]
                    refine wpAnyH_ready (rs := [25]) (by kernel_rfl) (by simp) ?_
                    refine AllReadyH.cons rfl (fun K hK => ?_) AllReadyH.nil
                    go_simp
                    with_reducible refine Calls.mono (HOl.out _) ?_
                    rintro e w14 ⟨rfl, k14⟩
                    go_wp2_with fail
                    refine hK.out _ _ (Keeps.trans hHeld k14) (fun hHeld => ?_)
                    clear hK K
                    try simp only [Act.put, List.setIfInBounds_toArray, List.set_cons_zero, List.set_cons_succ]
                    refine' wpAnyH_take (i := 26) ?hi26_3 ?hs26_3 ?hf26_3 ?hr26_3 ?hQ26_3 ?hy26_3 (by assumption) ?rest26_3
                    case hi26_3 => simp only [List.getElem?_toArray, List.getElem?_cons_succ, List.getElem?_cons_zero] <;> rfl
                    case hs26_3 => kernel_rfl
                    case hf26_3 => kernel_rfl
                    case hr26_3 => kernel_rfl
                    case hQ26_3 => exact fun _ _ _ h => h
                    case hy26_3 => exact Or.inl ⟨by rfl, fun w hSw => by have q0 := cell_keep cr hSw; have q1 := cell_keep cx hSw; have q2 := cell_keep c18 hSw; go_simp <;> (try with_reducible rfl)⟩
                    simp only [Act.put, List.setIfInBounds_toArray, List.set_cons_zero, List.set_cons_succ]
                    refine' wpAnyH_take (i := 27) ?hi27_3 ?hs27_3 ?hf27_3 ?hr27_3 ?hQ27_3 ?hy27_3 (by assumption) ?rest27_3
                    case hi27_3 => simp only [List.getElem?_toArray, List.getElem?_cons_succ, List.getElem?_cons_zero] <;> rfl
                    case hs27_3 => kernel_rfl
                    case hf27_3 => kernel_rfl
                    case hr27_3 => kernel_rfl
                    case hQ27_3 => exact fun _ _ _ h => h
                    case hy27_3 => exact Or.inl ⟨by rfl, fun w hSw => by have q0 := cell_keep cr hSw; have q1 := cell_keep cx hSw; have q2 := cell_keep c18 hSw; go_simp <;> (try with_reducible rfl)⟩
                    simp only [Act.put, List.setIfInBounds_toArray, List.set_cons_zero, List.set_cons_succ]
                    refine' wpAnyH_take (i := 28) ?hi28_3 ?hs28_3 ?hf28_3 ?hr28_3 ?hQ28_3 ?hy28_3 (by assumption) ?rest28_3
                    case hi28_3 => simp only [List.getElem?_toArray, List.getElem?_cons_succ, List.getElem?_cons_zero] <;> rfl
                    case hs28_3 => kernel_rfl
                    case hf28_3 => kernel_rfl
                    case hr28_3 => kernel_rfl
                    case hQ28_3 => exact fun _ _ _ h => h
                    case hy28_3 => exact Or.inl ⟨by rfl, fun w hSw => by have q0 := cell_keep cr hSw; have q1 := cell_keep cx hSw; have q2 := cell_keep c18 hSw; go_simp <;> (try with_reducible rfl)⟩
                    simp only [Act.put, List.setIfInBounds_toArray, List.set_cons_zero, List.set_cons_succ]
                    refine' wpAnyH_take (i := 29) ?hi29_3 ?hs29_3 ?hf29_3 ?hr29_3 ?hQ29_3 ?hy29_3 (by assumption) ?rest29_3
                    case hi29_3 => simp only [List.getElem?_toArray, List.getElem?_cons_succ, List.getElem?_cons_zero] <;> rfl
                    case hs29_3 => kernel_rfl
                    case hf29_3 => kernel_rfl
                    case hr29_3 => kernel_rfl
                    case hQ29_3 => exact fun _ _ _ h => h
                    case hy29_3 => exact Or.inl ⟨by rfl, fun w hSw => by have q0 := cell_keep cr hSw; have q1 := cell_keep cx hSw; have q2 := cell_keep c18 hSw; go_simp <;> (try with_reducible rfl)⟩
                    simp only [Act.put, List.setIfInBounds_toArray, List.set_cons_zero, List.set_cons_succ]
                    refine' wpAnyH_take (i := 30) ?hi30_3 ?hs30_3 ?hf30_3 ?hr30_3 ?hQ30_3 ?hy30_3 (by assumption) ?rest30_3
                    case hi30_3 => simp only [List.getElem?_toArray, List.getElem?_cons_succ, List.getElem?_cons_zero] <;> rfl
                    case hs30_3 => kernel_rfl
                    case hf30_3 => kernel_rfl
                    case hr30_3 => kernel_rfl
                    case hQ30_3 => exact fun _ _ _ h => h
                    case hy30_3 => exact Or.inl ⟨by rfl, fun w hSw => by have q0 := cell_keep cr hSw; have q1 := cell_keep cx hSw; have q2 := cell_keep c18 hSw; go_simp <;> (try with_reducible rfl)⟩
                    simp only [Act.put, List.setIfInBounds_toArray, List.set_cons_zero, List.set_cons_succ]
                    refine' wpAnyH_take (i := 31) ?hi31_3 ?hs31_3 ?hf31_3 ?hr31_3 ?hQ31_3 ?hy31_3 (by assumption) ?rest31_3
                    case hi31_3 => simp only [List.getElem?_toArray, List.getElem?_cons_succ, List.getElem?_cons_zero] <;> rfl
                    case hs31_3 => kernel_rfl
                    case hf31_3 => kernel_rfl
                    case hr31_3 => kernel_rfl
                    case hQ31_3 => exact fun _ _ _ h => h
                    case hy31_3 => exact Or.inl ⟨by rfl, fun w hSw => by have q0 := cell_keep cr hSw; have q1 := cell_keep cx hSw; have q2 := cell_keep c18 hSw; go_simp <;> (try with_reducible rfl)⟩
                    simp only [Act.put, List.setIfInBounds_toArray, List.set_cons_zero, List.set_cons_succ]
                    refine' wpAnyH_take (i := 32) ?hi32_3 ?hs32_3 ?hf32_3 ?hr32_3 ?hQ32_3 ?hy32_3 (by assumption) ?rest32_3
                    case hi32_3 => simp only [List.getElem?_toArray, List.getElem?_cons_succ, List.getElem?_cons_zero] <;> rfl
                    case hs32_3 => kernel_rfl
                    case hf32_3 => kernel_rfl
                    case hr32_3 => kernel_rfl
                    case hQ32_3 => exact fun _ _ _ h => h
                    case hy32_3 => exact Or.inl ⟨by rfl, fun w hSw => by have q0 := cell_keep cr hSw; have q1 := cell_keep cx hSw; have q2 := cell_keep c18 hSw; go_simp <;> (try with_reducible rfl)⟩
                    simp only [Act.put, List.setIfInBounds_toArray, List.set_cons_zero, List.set_cons_succ]
                    refine' wpAnyH_take (i := 33) ?hi33_3 ?hs33_3 ?hf33_3 ?hr33_3 ?hQ33_3 ?hy33_3 (by assumption) ?rest33_3
                    case hi33_3 => simp only [List.getElem?_toArray, List.getElem?_cons_succ, List.getElem?_cons_zero] <;> rfl
                    case hs33_3 => kernel_rfl
                    case hf33_3 => kernel_rfl
                    case hr33_3 => kernel_rfl
                    case hQ33_3 => exact fun _ _ _ h => h
                    case hy33_3 => exact Or.inl ⟨by rfl, fun w hSw => by have q0 := cell_keep cr hSw; have q1 := cell_keep cx hSw; have q2 := cell_keep c18 hSw; go_simp <;> (try with_reducible rfl)⟩
                    simp only [Act.put, List.setIfInBounds_toArray, List.set_cons_zero, List.set_cons_succ]
                    refine' wpAnyH_take (i := 34) ?hi34_3 ?hs34_3 ?hf34_3 ?hr34_3 ?hQ34_3 ?hy34_3 (by assumption) ?rest34_3
                    case hi34_3 => simp only [List.getElem?_toArray, List.getElem?_cons_succ, List.getElem?_cons_zero] <;> rfl
                    case hs34_3 => kernel_rfl
                    case hf34_3 => kernel_rfl
                    case hr34_3 => kernel_rfl
                    case hQ34_3 => exact fun _ _ _ h => h
                    case hy34_3 => exact Or.inl ⟨by rfl, fun w hSw => by have q0 := cell_keep cr hSw; have q1 := cell_keep cx hSw; have q2 := cell_keep c18 hSw; go_simp <;> (try with_reducible rfl)⟩
                    simp only [Act.put, List.setIfInBounds_toArray, List.set_cons_zero, List.set_cons_succ]
                    refine' wpAnyH_take (i := 35) ?hi35_3 ?hs35_3 ?hf35_3 ?hr35_3 ?hQ35_3 ?hy35_3 (by assumption) ?rest35_3
                    case hi35_3 => simp only [List.getElem?_toArray, List.getElem?_cons_succ, List.getElem?_cons_zero] <;> rfl
                    case hs35_3 => kernel_rfl
                    case hf35_3 => kernel_rfl
                    case hr35_3 => kernel_rfl
                    case hQ35_3 => exact fun _ _ _ h => h
                    case hy35_3 => exact Or.inl ⟨by rfl, fun w hSw => by have q0 := cell_keep cr hSw; have q1 := cell_keep cx hSw; have q2 := cell_keep c18 hSw; go_simp <;> (try with_reducible rfl)⟩
                    simp only [Act.put, List.setIfInBounds_toArray, List.set_cons_zero, List.set_cons_succ]
                    refine' wpAnyH_take (i := 36) ?hi36_3 ?hs36_3 ?hf36_3 ?hr36_3 ?hQ36_3 ?hy36_3 (by assumption) ?rest36_3
                    case hi36_3 => simp only [List.getElem?_toArray, List.getElem?_cons_succ, List.getElem?_cons_zero] <;> rfl
                    case hs36_3 => kernel_rfl
                    case hf36_3 => kernel_rfl
                    case hr36_3 => kernel_rfl
                    case hQ36_3 => exact fun _ _ _ h => h
                    case hy36_3 => exact Or.inl ⟨by rfl, fun w hSw => by have q0 := cell_keep cr hSw; have q1 := cell_keep cx hSw; have q2 := cell_keep c18 hSw; go_simp <;> (try with_reducible rfl)⟩
                    simp only [Act.put, List.setIfInBounds_toArray, List.set_cons_zero, List.set_cons_succ]
                    refine' wpAnyH_take (i := 37) ?hi37_3 ?hs37_3 ?hf37_3 ?hr37_3 ?hQ37_3 ?hy37_3 (by assumption) ?rest37_3
                    case hi37_3 => simp only [List.getElem?_toArray, List.getElem?_cons_succ, List.getElem?_cons_zero] <;> rfl
                    case hs37_3 => kernel_rfl
                    case hf37_3 => kernel_rfl
                    case hr37_3 => kernel_rfl
                    case hQ37_3 => exact fun _ _ _ h => h
                    case hy37_3 => exact Or.inl ⟨by rfl, fun w hSw => by have q0 := cell_keep cr hSw; have q1 := cell_keep cx hSw; have q2 := cell_keep c18 hSw; go_simp <;> (try with_reducible rfl)⟩
                    simp only [Act.put, List.setIfInBounds_toArray, List.set_cons_zero, List.set_cons_succ]
                    refine' wpAnyH_take (i := 38) ?hi38_3 ?hs38_3 ?hf38_3 ?hr38_3 ?hQ38_3 ?hy38_3 (by assumption) ?rest38_3
                    case hi38_3 => simp only [List.getElem?_toArray, List.getElem?_cons_succ, List.getElem?_cons_zero] <;> rfl
                    case hs38_3 => kernel_rfl
                    case hf38_3 => kernel_rfl
                    case hr38_3 => kernel_rfl
                    case hQ38_3 => exact fun _ _ _ h => h
                    case hy38_3 => exact Or.inl ⟨by rfl, fun w hSw => by have q0 := cell_keep cr hSw; have q1 := cell_keep cx hSw; have q2 := cell_keep c18 hSw; go_simp <;> (try with_reducible rfl)⟩
                    simp only [Act.put, List.setIfInBounds_toArray, List.set_cons_zero, List.set_cons_succ]
                    refine' wpAnyH_take (i := 39) ?hi39_3 ?hs39_3 ?hf39_3 ?hr39_3 ?hQ39_3 ?hy39_3 (by assumption) ?rest39_3
                    case hi39_3 => simp only [List.getElem?_toArray, List.getElem?_cons_succ, List.getElem?_cons_zero] <;> rfl
                    case hs39_3 => kernel_rfl
                    case hf39_3 => kernel_rfl
                    case hr39_3 => kernel_rfl
                    case hQ39_3 => exact fun _ _ _ h => h
                    case hy39_3 => exact Or.inl ⟨by rfl, fun w hSw => by have q0 := cell_keep cr hSw; have q1 := cell_keep cx hSw; have q2 := cell_keep c18 hSw; go_simp <;> (try with_reducible rfl)⟩
                    simp only [Act.put, List.setIfInBounds_toArray, List.set_cons_zero, List.set_cons_succ]
                    refine wpAnyH_done (by kernel_rfl) ?_ _
                    refine NoPanic.normal ?_
                    go_wp2_with fail
                    go_meet
                    exact ⟨rfl, hHeld⟩
              case rest =>
              obtain ⟨wp, rfl⟩ : ∃ wp : World, wp = wc := ⟨_, rfl⟩
              obtain ⟨rfl, kp⟩ := hcut
              have kop := Keeps.trans ko kp
              clear hZ HOd HOl
              go_wp2_with fail
              go_loopw [133] (fun i wr => ∃ k : Nat, k ≤ j ∧ i = .int .i64 k ∧ Keeps w12 wr) (fun i _ => j - (intOf i).toNat)
              case atStart => exact ⟨0, by omega, rfl, kop⟩
              case round =>
                obtain ⟨wp2, rfl⟩ : ∃ wp2 : World, wp2 = wr := ⟨_, rfl⟩
                obtain ⟨k, hk, rfl, kq⟩ := hrel
                by_cases hlk : k < j
                · have hlk2 : k < nz := by omega
                  have hkI : (k : Int) < nz := by omega
                  have e18 := cell_keep (B12.c 18 _ rfl) kq
                  obtain ⟨ob2, oo2, hoe2, er0⟩ := (HRo.out.keep kq).one hlt
                  obtain ⟨ob3, oo3, hoe3, fr0⟩ := (HRo.out.keep kq).one hlk2
                  obtain ⟨xb2, xo2, hxe2, ex0⟩ := (HRx.out.keep kq).one hlt
                  obtain ⟨xb3, xo3, hxe3, fx0⟩ := (HRx.out.keep kq).one hlk2
                  cases hoe2
                  cases hoe3
                  cases hxe2
                  cases hxe3
                  have er : wp2.cell? ⟨ob, oo + j, none⟩ = some (.int .i64 (out.getD j 0)) := er0
                  have fr : wp2.cell? ⟨ob, oo + k, none⟩ = some (.int .i64 (out.getD k 0)) := fr0
                  have ex : wp2.cell? ⟨xo_, xo + j, none⟩ = some (.int .i64 (rl.getD j 0)) := ex0
                  have fx : wp2.cell? ⟨xo_, xo + k, none⟩ = some (.int .i64 (rl.getD k 0)) := fx0
                  have hEq := HInj.out j k hlt hlk2
                  clear er0 fr0 ex0 fx0
                  generalize out.getD j 0 = r1 at *
                  generalize out.getD k 0 = r2 at *
                  generalize rl.getD j 0 = x1 at *
                  generalize rl.getD k 0 = x2 at *
                  have HBE := Lib.hid (show ∃ b : Bool, (r1 == r2) = b ∧ (x1 == x2) = b from ⟨(r1 == r2), rfl, by
                    by_cases e : x1 = x2
                    · have e2 := hEq.2 e; rw [e, e2, beq_self_eq_true, beq_self_eq_true]
                    · have e2 : ¬ r1 = r2 := fun h => e (hEq.1 h)
                      rw [beq_eq_false_iff_ne.2 e, beq_eq_false_iff_ne.2 e2]⟩)
                  clear hEq
                  obtain ⟨bq, hb1, hb2⟩ := HBE.out
                  clear HBE
                  go_upto_region 19 with fail
                  cases bq with
                  | false =>
                    refine wp_region_noPanic ?_
                    refine wp_region_held_drew (S := (fun w' => Keeps wp2 w')) (by kernel_rfl) (Touch.refl _ wp2).drew (fun hHeld => ?_)
                    refine' wpAnyH_take (i := 0) ?hi0_4 ?hs0_4 ?hf0_4 ?hr0_4 ?hQ0_4 ?hy0_4 (by assumption) ?rest0_4
                    case hi0_4 => simp only [List.getElem?_toArray, List.getElem?_cons_zero] <;> rfl
                    case hs0_4 => kernel_rfl
                    case hf0_4 => kernel_rfl
                    case hr0_4 => kernel_rfl
                    case hQ0_4 => exact fun _ _ _ h => h
                    case hy0_4 => exact Or.inl ⟨by rfl, fun w hSw => by have q0 := cell_keep er hSw; have q1 := cell_keep ex hSw; have q2 := cell_keep e18 hSw; have q3 := cell_keep fr hSw; have q4 := cell_keep fx hSw; go_simp <;> (try with_reducible rfl)⟩
                    simp only [Act.put, List.setIfInBounds_toArray, List.set_cons_zero, List.set_cons_succ]
                    refine' wpAnyH_take (i := 1) ?hi1_4 ?hs1_4 ?hf1_4 ?hr1_4 ?hQ1_4 ?hy1_4 (by assumption) ?rest1_4
                    case hi1_4 => simp only [List.getElem?_toArray, List.getElem?_cons_succ, List.getElem?_cons_zero] <;> rfl
                    case hs1_4 => kernel_rfl
                    case hf1_4 => kernel_rfl
                    case hr1_4 => kernel_rfl
                    case hQ1_4 => exact fun _ _ _ h => h
                    case hy1_4 => exact Or.inl ⟨by rfl, fun w hSw => by have q0 := cell_keep er hSw; have q1 := cell_keep ex hSw; have q2 := cell_keep e18 hSw; have q3 := cell_keep fr hSw; have q4 := cell_keep fx hSw; go_simp <;> (try with_reducible rfl)⟩
                    simp only [Act.put, List.setIfInBounds_toArray, List.set_cons_zero, List.set_cons_succ]
                    refine' wpAnyH_take (i := 2) ?hi2_4 ?hs2_4 ?hf2_4 ?hr2_4 ?hQ2_4 ?hy2_4 (by assumption) ?rest2_4
                    case hi2_4 => simp only [List.getElem?_toArray, List.getElem?_cons_succ, List.getElem?_cons_zero] <;> rfl
                    case hs2_4 => kernel_rfl
                    case hf2_4 => kernel_rfl
                    case hr2_4 => kernel_rfl
                    case hQ2_4 => exact fun _ _ _ h => h
                    case hy2_4 => exact Or.inl ⟨by rfl, fun w hSw => by have q0 := cell_keep er hSw; have q1 := cell_keep ex hSw; have q2 := cell_keep e18 hSw; have q3 := cell_keep fr hSw; have q4 := cell_keep fx hSw; go_simp <;> (try with_reducible rfl)⟩
                    simp only [Act.put, List.setIfInBounds_toArray, List.set_cons_zero, List.set_cons_succ]
                    refine' wpAnyH_take (i := 3) ?hi3_4 ?hs3_4 ?hf3_4 ?hr3_4 ?hQ3_4 ?hy3_4 (by assumption) ?rest3_4
                    case hi3_4 => simp only [List.getElem?_toArray, List.getElem?_cons_succ, List.getElem?_cons_zero] <;> rfl
                    case hs3_4 => kernel_rfl
                    case hf3_4 => kernel_rfl
                    case hr3_4 => kernel_rfl
                    case hQ3_4 => exact fun _ _ _ h => h
                    case hy3_4 => exact Or.inl ⟨by rfl, fun w hSw => by have q0 := cell_keep er hSw; have q1 := cell_keep ex hSw; have q2 := cell_keep e18 hSw; have q3 := cell_keep fr hSw; have q4 := cell_keep fx hSw; go_simp <;> (try with_reducible rfl)⟩
                    simp only [Act.put, List.setIfInBounds_toArray, List.set_cons_zero, List.set_cons_succ]
                    refine' wpAnyH_take (i := 4) ?hi4_4 ?hs4_4 ?hf4_4 ?hr4_4 ?hQ4_4 ?hy4_4 (by assumption) ?rest4_4
                    case hi4_4 => simp only [List.getElem?_toArray, List.getElem?_cons_succ, List.getElem?_cons_zero] <;> rfl
                    case hs4_4 => kernel_rfl
                    case hf4_4 => kernel_rfl
                    case hr4_4 => kernel_rfl
                    case hQ4_4 => exact fun _ _ _ h => h
                    case hy4_4 => exact Or.inl ⟨by rfl, fun w hSw => by have q0 := cell_keep er hSw; have q1 := cell_keep ex hSw; have q2 := cell_keep e18 hSw; have q3 := cell_keep fr hSw; have q4 := cell_keep fx hSw; go_simp <;> (try with_reducible rfl)⟩
                    simp only [Act.put, List.setIfInBounds_toArray, List.set_cons_zero, List.set_cons_succ]
                    refine' wpAnyH_take (i := 5) ?hi5_4 ?hs5_4 ?hf5_4 ?hr5_4 ?hQ5_4 ?hy5_4 (by assumption) ?rest5_4
                    case hi5_4 => simp only [List.getElem?_toArray, List.getElem?_cons_succ, List.getElem?_cons_zero] <;> rfl
                    case hs5_4 => kernel_rfl
                    case hf5_4 => kernel_rfl
                    case hr5_4 => kernel_rfl
                    case hQ5_4 => exact fun _ _ _ h => h
                    case hy5_4 => exact Or.inl ⟨by rfl, fun w hSw => by have q0 := cell_keep er hSw; have q1 := cell_keep ex hSw; have q2 := cell_keep e18 hSw; have q3 := cell_keep fr hSw; have q4 := cell_keep fx hSw; go_simp <;> (try with_reducible rfl)⟩
                    simp only [Act.put, List.setIfInBounds_toArray, List.set_cons_zero, List.set_cons_succ]
                    refine' wpAnyH_take (i := 6) ?hi6_4 ?hs6_4 ?hf6_4 ?hr6_4 ?hQ6_4 ?hy6_4 (by assumption) ?rest6_4
                    case hi6_4 => simp only [List.getElem?_toArray, List.getElem?_cons_succ, List.getElem?_cons_zero] <;> rfl
                    case hs6_4 => kernel_rfl
                    case hf6_4 => kernel_rfl
                    case hr6_4 => kernel_rfl
                    case hQ6_4 => exact fun _ _ _ h => h
                    case hy6_4 => exact Or.inl ⟨by rfl, fun w hSw => by have q0 := cell_keep er hSw; have q1 := cell_keep ex hSw; have q2 := cell_keep e18 hSw; have q3 := cell_keep fr hSw; have q4 := cell_keep fx hSw; go_simp <;> (try with_reducible rfl)⟩
                    simp only [Act.put, List.setIfInBounds_toArray, List.set_cons_zero, List.set_cons_succ]
                    refine' wpAnyH_take (i := 7) ?hi7_4 ?hs7_4 ?hf7_4 ?hr7_4 ?hQ7_4 ?hy7_4 (by assumption) ?rest7_4
                    case hi7_4 => simp only [List.getElem?_toArray, List.getElem?_cons_succ, List.getElem?_cons_zero] <;> rfl
                    case hs7_4 => kernel_rfl
                    case hf7_4 => kernel_rfl
                    case hr7_4 => kernel_rfl
                    case hQ7_4 => exact fun _ _ _ h => h
                    case hy7_4 => exact Or.inl ⟨by rfl, fun w hSw => by have q0 := cell_keep er hSw; have q1 := cell_keep ex hSw; have q2 := cell_keep e18 hSw; have q3 := cell_keep fr hSw; have q4 := cell_keep fx hSw; go_simp <;> (try with_reducible rfl)⟩
                    simp only [Act.put, List.setIfInBounds_toArray, List.set_cons_zero, List.set_cons_succ]
                    refine' wpAnyH_take (i := 8) ?hi8_4 ?hs8_4 ?hf8_4 ?hr8_4 ?hQ8_4 ?hy8_4 (by assumption) ?rest8_4
                    case hi8_4 => simp only [List.getElem?_toArray, List.getElem?_cons_succ, List.getElem?_cons_zero] <;> rfl
                    case hs8_4 => kernel_rfl
                    case hf8_4 => kernel_rfl
                    case hr8_4 => kernel_rfl
                    case hQ8_4 => exact fun _ _ _ h => h
                    case hy8_4 => exact Or.inl ⟨by rfl, fun w hSw => by have q0 := cell_keep er hSw; have q1 := cell_keep ex hSw; have q2 := cell_keep e18 hSw; have q3 := cell_keep fr hSw; have q4 := cell_keep fx hSw; go_simp <;> (try with_reducible rfl)⟩
                    simp only [Act.put, List.setIfInBounds_toArray, List.set_cons_zero, List.set_cons_succ]
                    refine' wpAnyH_take (i := 9) ?hi9_4 ?hs9_4 ?hf9_4 ?hr9_4 ?hQ9_4 ?hy9_4 (by assumption) ?rest9_4
                    case hi9_4 => simp only [List.getElem?_toArray, List.getElem?_cons_succ, List.getElem?_cons_zero] <;> rfl
                    case hs9_4 => kernel_rfl
                    case hf9_4 => kernel_rfl
                    case hr9_4 => kernel_rfl
                    case hQ9_4 => exact fun _ _ _ h => h
                    case hy9_4 => exact Or.inl ⟨by rfl, fun w hSw => by have q0 := cell_keep er hSw; have q1 := cell_keep ex hSw; have q2 := cell_keep e18 hSw; have q3 := cell_keep fr hSw; have q4 := cell_keep fx hSw; go_simp <;> (try with_reducible rfl)⟩
                    simp only [Act.put, List.setIfInBounds_toArray, List.set_cons_zero, List.set_cons_succ]
                    refine' wpAnyH_take (i := 10) ?hi10_4 ?hs10_4 ?hf10_4 ?hr10_4 ?hQ10_4 ?hy10_4 (by assumption) ?rest10_4
                    case hi10_4 => simp only [List.getElem?_toArray, List.getElem?_cons_succ, List.getElem?_cons_zero] <;> rfl
                    case hs10_4 => kernel_rfl
                    case hf10_4 => kernel_rfl
                    case hr10_4 => kernel_rfl
                    case hQ10_4 => exact fun _ _ _ h => h
                    case hy10_4 => exact Or.inl ⟨by rfl, fun w hSw => by have q0 := cell_keep er hSw; have q1 := cell_keep ex hSw; have q2 := cell_keep e18 hSw; have q3 := cell_keep fr hSw; have q4 := cell_keep fx hSw; go_simp <;> (try with_reducible rfl)⟩
                    simp only [Act.put, List.setIfInBounds_toArray, List.set_cons_zero, List.set_cons_succ]
                    refine' wpAnyH_take (i := 11) ?hi11_4 ?hs11_4 ?hf11_4 ?hr11_4 ?hQ11_4 ?hy11_4 (by assumption) ?rest11_4
                    case hi11_4 => simp only [List.getElem?_toArray, List.getElem?_cons_succ, List.getElem?_cons_zero] <;> rfl
                    case hs11_4 => kernel_rfl
                    case hf11_4 => kernel_rfl
                    case hr11_4 => kernel_rfl
                    case hQ11_4 => exact fun _ _ _ h => h
                    case hy11_4 => exact Or.inl ⟨by rfl, fun w hSw => by have q0 := cell_keep er hSw; have q1 := cell_keep ex hSw; have q2 := cell_keep e18 hSw; have q3 := cell_keep fr hSw; have q4 := cell_keep fx hSw; go_simp <;> (try with_reducible rfl)⟩
                    simp only [Act.put, List.setIfInBounds_toArray, List.set_cons_zero, List.set_cons_succ]
                    refine' wpAnyH_take (i := 12) ?hi12_4 ?hs12_4 ?hf12_4 ?hr12_4 ?hQ12_4 ?hy12_4 (by assumption) ?rest12_4
                    case hi12_4 => simp only [List.getElem?_toArray, List.getElem?_cons_succ, List.getElem?_cons_zero] <;> rfl
                    case hs12_4 => kernel_rfl
                    case hf12_4 => kernel_rfl
                    case hr12_4 => kernel_rfl
                    case hQ12_4 => exact fun _ _ _ h => h
                    case hy12_4 => exact Or.inl ⟨by rfl, fun w hSw => by have q0 := cell_keep er hSw; have q1 := cell_keep ex hSw; have q2 := cell_keep e18 hSw; have q3 := cell_keep fr hSw; have q4 := cell_keep fx hSw; go_simp <;> (try with_reducible rfl)⟩
                    simp only [Act.put, List.setIfInBounds_toArray, List.set_cons_zero, List.set_cons_succ]
                    refine' wpAnyH_take (i := 13) ?hi13_4 ?hs13_4 ?hf13_4 ?hr13_4 ?hQ13_4 ?hy13_4 (by assumption) ?rest13_4
                    case hi13_4 => simp only [List.getElem?_toArray, List.getElem?_cons_succ, List.getElem?_cons_zero] <;> rfl
                    case hs13_4 => kernel_rfl
                    case hf13_4 => kernel_rfl
                    case hr13_4 => kernel_rfl
                    case hQ13_4 => exact fun _ _ _ h => h
                    case hy13_4 => exact Or.inl ⟨by rfl, fun w hSw => by have q0 := cell_keep er hSw; have q1 := cell_keep ex hSw; have q2 := cell_keep e18 hSw; have q3 := cell_keep fr hSw; have q4 := cell_keep fx hSw; go_simp <;> (try with_reducible rfl)⟩
                    simp only [Act.put, List.setIfInBounds_toArray, List.set_cons_zero, List.set_cons_succ]
                    refine' wpAnyH_take (i := 14) ?hi14_4 ?hs14_4 ?hf14_4 ?hr14_4 ?hQ14_4 ?hy14_4 (by assumption) ?rest14_4
                    case hi14_4 => simp only [List.getElem?_toArray, List.getElem?_cons_succ, List.getElem?_cons_zero] <;> rfl
                    case hs14_4 => kernel_rfl
                    case hf14_4 => kernel_rfl
                    case hr14_4 => kernel_rfl
                    case hQ14_4 => exact fun _ _ _ h => h
                    case hy14_4 => exact Or.inl ⟨by rfl, fun w hSw => by have q0 := cell_keep er hSw; have q1 := cell_keep ex hSw; have q2 := cell_keep e18 hSw; have q3 := cell_keep fr hSw; have q4 := cell_keep fx hSw; go_simp <;> (try with_reducible rfl)⟩
                    simp only [Act.put, List.setIfInBounds_toArray, List.set_cons_zero, List.set_cons_succ]
                    refine' wpAnyH_take (i := 15) ?hi15_4 ?hs15_4 ?hf15_4 ?hr15_4 ?hQ15_4 ?hy15_4 (by assumption) ?rest15_4
                    case hi15_4 => simp only [List.getElem?_toArray, List.getElem?_cons_succ, List.getElem?_cons_zero] <;> rfl
                    case hs15_4 => kernel_rfl
                    case hf15_4 => kernel_rfl
                    case hr15_4 => kernel_rfl
                    case hQ15_4 => exact fun _ _ _ h => h
                    case hy15_4 => exact Or.inl ⟨by rfl, fun w hSw => by have q0 := cell_keep er hSw; have q1 := cell_keep ex hSw; have q2 := cell_keep e18 hSw; have q3 := cell_keep fr hSw; have q4 := cell_keep fx hSw; go_simp <;> (try with_reducible rfl)⟩
                    simp only [Act.put, List.setIfInBounds_toArray, List.set_cons_zero, List.set_cons_succ]
                    refine' wpAnyH_take (i := 16) ?hi16_4 ?hs16_4 ?hf16_4 ?hr16_4 ?hQ16_4 ?hy16_4 (by assumption) ?rest16_4
                    case hi16_4 => simp only [List.getElem?_toArray, List.getElem?_cons_succ, List.getElem?_cons_zero] <;> rfl
                    case hs16_4 => kernel_rfl
                    case hf16_4 => kernel_rfl
                    case hr16_4 => kernel_rfl
                    case hQ16_4 => exact fun _ _ _ h => h
                    case hy16_4 => exact Or.inl ⟨by rfl, fun w hSw => by have q0 := cell_keep er hSw; have q1 := cell_keep ex hSw; have q2 := cell_keep e18 hSw; have q3 := cell_keep fr hSw; have q4 := cell_keep fx hSw; go_simp <;> (try with_reducible rfl)⟩
                    simp only [Act.put, List.setIfInBounds_toArray, List.set_cons_zero, List.set_cons_succ]
                    refine' wpAnyH_take (i := 17) ?hi17_4 ?hs17_4 ?hf17_4 ?hr17_4 ?hQ17_4 ?hy17_4 (by assumption) ?rest17_4
                    case hi17_4 => simp only [List.getElem?_toArray, List.getElem?_cons_succ, List.getElem?_cons_zero] <;> rfl
                    case hs17_4 => kernel_rfl
                    case hf17_4 => kernel_rfl
                    case hr17_4 => kernel_rfl
                    case hQ17_4 => exact fun _ _ _ h => h
                    case hy17_4 => exact Or.inl ⟨by rfl, fun w hSw => by have q0 := cell_keep er hSw; have q1 := cell_keep ex hSw; have q2 := cell_keep e18 hSw; have q3 := cell_keep fr hSw; have q4 := cell_keep fx hSw; go_simp <;> (try with_reducible rfl)⟩
                    simp only [Act.put, List.setIfInBounds_toArray, List.set_cons_zero, List.set_cons_succ]
                    refine' wpAnyH_take (i := 18) ?hi18_4 ?hs18_4 ?hf18_4 ?hr18_4 ?hQ18_4 ?hy18_4 (by assumption) ?rest18_4
                    case hi18_4 => simp only [List.getElem?_toArray, List.getElem?_cons_succ, List.getElem?_cons_zero] <;> rfl
                    case hs18_4 => kernel_rfl
                    case hf18_4 => kernel_rfl
                    case hr18_4 => kernel_rfl
                    case hQ18_4 => exact fun _ _ _ h => h
                    case hy18_4 => exact Or.inl ⟨by rfl, fun w hSw => by have q0 := cell_keep er hSw; have q1 := cell_keep ex hSw; have q2 := cell_keep e18 hSw; have q3 := cell_keep fr hSw; have q4 := cell_keep fx hSw; go_simp <;> (try with_reducible rfl)⟩
                    simp only [Act.put, List.setIfInBounds_toArray, List.set_cons_zero, List.set_cons_succ]
                    refine' wpAnyH_take (i := 19) ?hi19_4 ?hs19_4 ?hf19_4 ?hr19_4 ?hQ19_4 ?hy19_4 (by assumption) ?rest19_4
                    case hi19_4 => simp only [List.getElem?_toArray, List.getElem?_cons_succ, List.getElem?_cons_zero] <;> rfl
                    case hs19_4 => kernel_rfl
                    case hf19_4 => kernel_rfl
                    case hr19_4 => kernel_rfl
                    case hQ19_4 => exact fun _ _ _ h => h
                    case hy19_4 => exact Or.inl ⟨by rfl, fun w hSw => by have q0 := cell_keep er hSw; have q1 := cell_keep ex hSw; have q2 := cell_keep e18 hSw; have q3 := cell_keep fr hSw; have q4 := cell_keep fx hSw; go_simp <;> (try with_reducible rfl)⟩
                    simp only [Act.put, List.setIfInBounds_toArray, List.set_cons_zero, List.set_cons_succ]
                    refine' wpAnyH_take (i := 20) ?hi20_4 ?hs20_4 ?hf20_4 ?hr20_4 ?hQ20_4 ?hy20_4 (by assumption) ?rest20_4
                    case hi20_4 => simp only [List.getElem?_toArray, List.getElem?_cons_succ, List.getElem?_cons_zero] <;> rfl
                    case hs20_4 => kernel_rfl
                    case hf20_4 => kernel_rfl
                    case hr20_4 => kernel_rfl
                    case hQ20_4 => exact fun _ _ _ h => h
                    case hy20_4 => exact Or.inl ⟨by rfl, fun w hSw => by have q0 := cell_keep er hSw; have q1 := cell_keep ex hSw; have q2 := cell_keep e18 hSw; have q3 := cell_keep fr hSw; have q4 := cell_keep fx hSw; go_simp <;> (try with_reducible rfl)⟩
                    simp only [Act.put, List.setIfInBounds_toArray, List.set_cons_zero, List.set_cons_succ]
                    refine wpAnyH_done (by kernel_rfl) ?_ _
                    refine NoPanic.normal ?_
                    go_wp2_with fail
                    go_roundw
                    case rel => exact ⟨k + 1, by omega, by go_num, Keeps.trans kq hHeld⟩
                    case measure => simp [intOf]; omega
                  | true =>
                    refine wp_region_noPanic ?_
                    refine wp_region_held_drew (S := (fun w' => Keeps wp2 w')) (by kernel_rfl) (Touch.refl _ wp2).drew (fun hHeld => ?_)
                    refine' wpAnyH_take (i := 0) ?hi0_5 ?hs0_5 ?hf0_5 ?hr0_5 ?hQ0_5 ?hy0_5 (by assumption) ?rest0_5
                    case hi0_5 => simp only [List.getElem?_toArray, List.getElem?_cons_zero] <;> rfl
                    case hs0_5 => kernel_rfl
                    case hf0_5 => kernel_rfl
                    case hr0_5 => kernel_rfl
                    case hQ0_5 => exact fun _ _ _ h => h
                    case hy0_5 => exact Or.inl ⟨by rfl, fun w hSw => by have q0 := cell_keep er hSw; have q1 := cell_keep ex hSw; have q2 := cell_keep e18 hSw; have q3 := cell_keep fr hSw; have q4 := cell_keep fx hSw; go_simp <;> (try with_reducible rfl)⟩
                    simp only [Act.put, List.setIfInBounds_toArray, List.set_cons_zero, List.set_cons_succ]
                    refine' wpAnyH_take (i := 1) ?hi1_5 ?hs1_5 ?hf1_5 ?hr1_5 ?hQ1_5 ?hy1_5 (by assumption) ?rest1_5
                    case hi1_5 => simp only [List.getElem?_toArray, List.getElem?_cons_succ, List.getElem?_cons_zero] <;> rfl
                    case hs1_5 => kernel_rfl
                    case hf1_5 => kernel_rfl
                    case hr1_5 => kernel_rfl
                    case hQ1_5 => exact fun _ _ _ h => h
                    case hy1_5 => exact Or.inl ⟨by rfl, fun w hSw => by have q0 := cell_keep er hSw; have q1 := cell_keep ex hSw; have q2 := cell_keep e18 hSw; have q3 := cell_keep fr hSw; have q4 := cell_keep fx hSw; go_simp <;> (try with_reducible rfl)⟩
                    simp only [Act.put, List.setIfInBounds_toArray, List.set_cons_zero, List.set_cons_succ]
                    refine' wpAnyH_take (i := 2) ?hi2_5 ?hs2_5 ?hf2_5 ?hr2_5 ?hQ2_5 ?hy2_5 (by assumption) ?rest2_5
                    case hi2_5 => simp only [List.getElem?_toArray, List.getElem?_cons_succ, List.getElem?_cons_zero] <;> rfl
                    case hs2_5 => kernel_rfl
                    case hf2_5 => kernel_rfl
                    case hr2_5 => kernel_rfl
                    case hQ2_5 => exact fun _ _ _ h => h
                    case hy2_5 => exact Or.inl ⟨by rfl, fun w hSw => by have q0 := cell_keep er hSw; have q1 := cell_keep ex hSw; have q2 := cell_keep e18 hSw; have q3 := cell_keep fr hSw; have q4 := cell_keep fx hSw; go_simp <;> (try with_reducible rfl)⟩
                    simp only [Act.put, List.setIfInBounds_toArray, List.set_cons_zero, List.set_cons_succ]
                    refine' wpAnyH_take (i := 3) ?hi3_5 ?hs3_5 ?hf3_5 ?hr3_5 ?hQ3_5 ?hy3_5 (by assumption) ?rest3_5
                    case hi3_5 => simp only [List.getElem?_toArray, List.getElem?_cons_succ, List.getElem?_cons_zero] <;> rfl
                    case hs3_5 => kernel_rfl
                    case hf3_5 => kernel_rfl
                    case hr3_5 => kernel_rfl
                    case hQ3_5 => exact fun _ _ _ h => h
                    case hy3_5 => exact Or.inl ⟨by rfl, fun w hSw => by have q0 := cell_keep er hSw; have q1 := cell_keep ex hSw; have q2 := cell_keep e18 hSw; have q3 := cell_keep fr hSw; have q4 := cell_keep fx hSw; go_simp <;> (try with_reducible rfl)⟩
                    simp only [Act.put, List.setIfInBounds_toArray, List.set_cons_zero, List.set_cons_succ]
                    refine' wpAnyH_take (i := 4) ?hi4_5 ?hs4_5 ?hf4_5 ?hr4_5 ?hQ4_5 ?hy4_5 (by assumption) ?rest4_5
                    case hi4_5 => simp only [List.getElem?_toArray, List.getElem?_cons_succ, List.getElem?_cons_zero] <;> rfl
                    case hs4_5 => kernel_rfl
                    case hf4_5 => kernel_rfl
                    case hr4_5 => kernel_rfl
                    case hQ4_5 => exact fun _ _ _ h => h
                    case hy4_5 => exact Or.inl ⟨by rfl, fun w hSw => by have q0 := cell_keep er hSw; have q1 := cell_keep ex hSw; have q2 := cell_keep e18 hSw; have q3 := cell_keep fr hSw; have q4 := cell_keep fx hSw; go_simp <;> (try with_reducible rfl)⟩
                    simp only [Act.put, List.setIfInBounds_toArray, List.set_cons_zero, List.set_cons_succ]
                    refine' wpAnyH_take (i := 5) ?hi5_5 ?hs5_5 ?hf5_5 ?hr5_5 ?hQ5_5 ?hy5_5 (by assumption) ?rest5_5
                    case hi5_5 => simp only [List.getElem?_toArray, List.getElem?_cons_succ, List.getElem?_cons_zero] <;> rfl
                    case hs5_5 => kernel_rfl
                    case hf5_5 => kernel_rfl
                    case hr5_5 => kernel_rfl
                    case hQ5_5 => exact fun _ _ _ h => h
                    case hy5_5 => exact Or.inl ⟨by rfl, fun w hSw => by have q0 := cell_keep er hSw; have q1 := cell_keep ex hSw; have q2 := cell_keep e18 hSw; have q3 := cell_keep fr hSw; have q4 := cell_keep fx hSw; go_simp <;> (try with_reducible rfl)⟩
                    simp only [Act.put, List.setIfInBounds_toArray, List.set_cons_zero, List.set_cons_succ]
                    refine' wpAnyH_take (i := 6) ?hi6_5 ?hs6_5 ?hf6_5 ?hr6_5 ?hQ6_5 ?hy6_5 (by assumption) ?rest6_5
                    case hi6_5 => simp only [List.getElem?_toArray, List.getElem?_cons_succ, List.getElem?_cons_zero] <;> rfl
                    case hs6_5 => kernel_rfl
                    case hf6_5 => kernel_rfl
                    case hr6_5 => kernel_rfl
                    case hQ6_5 => exact fun _ _ _ h => h
                    case hy6_5 => exact Or.inl ⟨by rfl, fun w hSw => by have q0 := cell_keep er hSw; have q1 := cell_keep ex hSw; have q2 := cell_keep e18 hSw; have q3 := cell_keep fr hSw; have q4 := cell_keep fx hSw; go_simp <;> (try with_reducible rfl)⟩
                    simp only [Act.put, List.setIfInBounds_toArray, List.set_cons_zero, List.set_cons_succ]
                    refine' wpAnyH_take (i := 7) ?hi7_5 ?hs7_5 ?hf7_5 ?hr7_5 ?hQ7_5 ?hy7_5 (by assumption) ?rest7_5
                    case hi7_5 => simp only [List.getElem?_toArray, List.getElem?_cons_succ, List.getElem?_cons_zero] <;> rfl
                    case hs7_5 => kernel_rfl
                    case hf7_5 => kernel_rfl
                    case hr7_5 => kernel_rfl
                    case hQ7_5 => exact fun _ _ _ h => h
                    case hy7_5 => exact Or.inl ⟨by rfl, fun w hSw => by have q0 := cell_keep er hSw; have q1 := cell_keep ex hSw; have q2 := cell_keep e18 hSw; have q3 := cell_keep fr hSw; have q4 := cell_keep fx hSw; go_simp <;> (try with_reducible rfl)⟩
                    simp only [Act.put, List.setIfInBounds_toArray, List.set_cons_zero, List.set_cons_succ]
                    refine' wpAnyH_take (i := 8) ?hi8_5 ?hs8_5 ?hf8_5 ?hr8_5 ?hQ8_5 ?hy8_5 (by assumption) ?rest8_5
                    case hi8_5 => simp only [List.getElem?_toArray, List.getElem?_cons_succ, List.getElem?_cons_zero] <;> rfl
                    case hs8_5 => kernel_rfl
                    case hf8_5 => kernel_rfl
                    case hr8_5 => kernel_rfl
                    case hQ8_5 => exact fun _ _ _ h => h
                    case hy8_5 => exact Or.inl ⟨by rfl, fun w hSw => by have q0 := cell_keep er hSw; have q1 := cell_keep ex hSw; have q2 := cell_keep e18 hSw; have q3 := cell_keep fr hSw; have q4 := cell_keep fx hSw; go_simp <;> (try with_reducible rfl)⟩
                    simp only [Act.put, List.setIfInBounds_toArray, List.set_cons_zero, List.set_cons_succ]
                    refine' wpAnyH_take (i := 9) ?hi9_5 ?hs9_5 ?hf9_5 ?hr9_5 ?hQ9_5 ?hy9_5 (by assumption) ?rest9_5
                    case hi9_5 => simp only [List.getElem?_toArray, List.getElem?_cons_succ, List.getElem?_cons_zero] <;> rfl
                    case hs9_5 => kernel_rfl
                    case hf9_5 => kernel_rfl
                    case hr9_5 => kernel_rfl
                    case hQ9_5 => exact fun _ _ _ h => h
                    case hy9_5 => exact Or.inl ⟨by rfl, fun w hSw => by have q0 := cell_keep er hSw; have q1 := cell_keep ex hSw; have q2 := cell_keep e18 hSw; have q3 := cell_keep fr hSw; have q4 := cell_keep fx hSw; go_simp <;> (try with_reducible rfl)⟩
                    simp only [Act.put, List.setIfInBounds_toArray, List.set_cons_zero, List.set_cons_succ]
                    refine' wpAnyH_take (i := 10) ?hi10_5 ?hs10_5 ?hf10_5 ?hr10_5 ?hQ10_5 ?hy10_5 (by assumption) ?rest10_5
                    case hi10_5 => simp only [List.getElem?_toArray, List.getElem?_cons_succ, List.getElem?_cons_zero] <;> rfl
                    case hs10_5 => kernel_rfl
                    case hf10_5 => kernel_rfl
                    case hr10_5 => kernel_rfl
                    case hQ10_5 => exact fun _ _ _ h => h
                    case hy10_5 => exact Or.inl ⟨by rfl, fun w hSw => by have q0 := cell_keep er hSw; have q1 := cell_keep ex hSw; have q2 := cell_keep e18 hSw; have q3 := cell_keep fr hSw; have q4 := cell_keep fx hSw; go_simp <;> (try with_reducible rfl)⟩
                    simp only [Act.put, List.setIfInBounds_toArray, List.set_cons_zero, List.set_cons_succ]
                    refine' wpAnyH_take (i := 11) ?hi11_5 ?hs11_5 ?hf11_5 ?hr11_5 ?hQ11_5 ?hy11_5 (by assumption) ?rest11_5
                    case hi11_5 => simp only [List.getElem?_toArray, List.getElem?_cons_succ, List.getElem?_cons_zero] <;> rfl
                    case hs11_5 => kernel_rfl
                    case hf11_5 => kernel_rfl
                    case hr11_5 => kernel_rfl
                    case hQ11_5 => exact fun _ _ _ h => h
                    case hy11_5 => exact Or.inl ⟨by rfl, fun w hSw => by have q0 := cell_keep er hSw; have q1 := cell_keep ex hSw; have q2 := cell_keep e18 hSw; have q3 := cell_keep fr hSw; have q4 := cell_keep fx hSw; go_simp <;> (try with_reducible rfl)⟩
                    simp only [Act.put, List.setIfInBounds_toArray, List.set_cons_zero, List.set_cons_succ]
                    refine' wpAnyH_take (i := 12) ?hi12_5 ?hs12_5 ?hf12_5 ?hr12_5 ?hQ12_5 ?hy12_5 (by assumption) ?rest12_5
                    case hi12_5 => simp only [List.getElem?_toArray, List.getElem?_cons_succ, List.getElem?_cons_zero] <;> rfl
                    case hs12_5 => kernel_rfl
                    case hf12_5 => kernel_rfl
                    case hr12_5 => kernel_rfl
                    case hQ12_5 => exact fun _ _ _ h => h
                    case hy12_5 => exact Or.inl ⟨by rfl, fun w hSw => by have q0 := cell_keep er hSw; have q1 := cell_keep ex hSw; have q2 := cell_keep e18 hSw; have q3 := cell_keep fr hSw; have q4 := cell_keep fx hSw; go_simp <;> (try with_reducible rfl)⟩
                    simp only [Act.put, List.setIfInBounds_toArray, List.set_cons_zero, List.set_cons_succ]
                    refine' wpAnyH_take (i := 13) ?hi13_5 ?hs13_5 ?hf13_5 ?hr13_5 ?hQ13_5 ?hy13_5 (by assumption) ?rest13_5
                    case hi13_5 => simp only [List.getElem?_toArray, List.getElem?_cons_succ, List.getElem?_cons_zero] <;> rfl
                    case hs13_5 => kernel_rfl
                    case hf13_5 => kernel_rfl
                    case hr13_5 => kernel_rfl
                    case hQ13_5 => exact fun _ _ _ h => h
                    case hy13_5 => exact Or.inl ⟨by rfl, fun w hSw => by have q0 := cell_keep er hSw; have q1 := cell_keep ex hSw; have q2 := cell_keep e18 hSw; have q3 := cell_keep fr hSw; have q4 := cell_keep fx hSw; go_simp <;> (try with_reducible rfl)⟩
                    simp only [Act.put, List.setIfInBounds_toArray, List.set_cons_zero, List.set_cons_succ]
                    refine' wpAnyH_take (i := 14) ?hi14_5 ?hs14_5 ?hf14_5 ?hr14_5 ?hQ14_5 ?hy14_5 (by assumption) ?rest14_5
                    case hi14_5 => simp only [List.getElem?_toArray, List.getElem?_cons_succ, List.getElem?_cons_zero] <;> rfl
                    case hs14_5 => kernel_rfl
                    case hf14_5 => kernel_rfl
                    case hr14_5 => kernel_rfl
                    case hQ14_5 => exact fun _ _ _ h => h
                    case hy14_5 => exact Or.inl ⟨by rfl, fun w hSw => by have q0 := cell_keep er hSw; have q1 := cell_keep ex hSw; have q2 := cell_keep e18 hSw; have q3 := cell_keep fr hSw; have q4 := cell_keep fx hSw; go_simp <;> (try with_reducible rfl)⟩
                    simp only [Act.put, List.setIfInBounds_toArray, List.set_cons_zero, List.set_cons_succ]
                    refine' wpAnyH_take (i := 15) ?hi15_5 ?hs15_5 ?hf15_5 ?hr15_5 ?hQ15_5 ?hy15_5 (by assumption) ?rest15_5
                    case hi15_5 => simp only [List.getElem?_toArray, List.getElem?_cons_succ, List.getElem?_cons_zero] <;> rfl
                    case hs15_5 => kernel_rfl
                    case hf15_5 => kernel_rfl
                    case hr15_5 => kernel_rfl
                    case hQ15_5 => exact fun _ _ _ h => h
                    case hy15_5 => exact Or.inl ⟨by rfl, fun w hSw => by have q0 := cell_keep er hSw; have q1 := cell_keep ex hSw; have q2 := cell_keep e18 hSw; have q3 := cell_keep fr hSw; have q4 := cell_keep fx hSw; go_simp <;> (try with_reducible rfl)⟩
                    simp only [Act.put, List.setIfInBounds_toArray, List.set_cons_zero, List.set_cons_succ]
                    refine' wpAnyH_take (i := 16) ?hi16_5 ?hs16_5 ?hf16_5 ?hr16_5 ?hQ16_5 ?hy16_5 (by assumption) ?rest16_5
                    case hi16_5 => simp only [List.getElem?_toArray, List.getElem?_cons_succ, List.getElem?_cons_zero] <;> rfl
                    case hs16_5 => kernel_rfl
                    case hf16_5 => kernel_rfl
                    case hr16_5 => kernel_rfl
                    case hQ16_5 => exact fun _ _ _ h => h
                    case hy16_5 => exact Or.inl ⟨by rfl, fun w hSw => by have q0 := cell_keep er hSw; have q1 := cell_keep ex hSw; have q2 := cell_keep e18 hSw; have q3 := cell_keep fr hSw; have q4 := cell_keep fx hSw; go_simp <;> (try with_reducible rfl)⟩
                    simp only [Act.put, List.setIfInBounds_toArray, List.set_cons_zero, List.set_cons_succ]
                    refine' wpAnyH_take (i := 17) ?hi17_5 ?hs17_5 ?hf17_5 ?hr17_5 ?hQ17_5 ?hy17_5 (by assumption) ?rest17_5
                    case hi17_5 => simp only [List.getElem?_toArray, List.getElem?_cons_succ, List.getElem?_cons_zero] <;> rfl
                    case hs17_5 => kernel_rfl
                    case hf17_5 => kernel_rfl
                    case hr17_5 => kernel_rfl
                    case hQ17_5 => exact fun _ _ _ h => h
                    case hy17_5 => exact Or.inl ⟨by rfl, fun w hSw => by have q0 := cell_keep er hSw; have q1 := cell_keep ex hSw; have q2 := cell_keep e18 hSw; have q3 := cell_keep fr hSw; have q4 := cell_keep fx hSw; go_simp <;> (try with_reducible rfl)⟩
                    simp only [Act.put, List.setIfInBounds_toArray, List.set_cons_zero, List.set_cons_succ]
                    refine' wpAnyH_take (i := 18) ?hi18_5 ?hs18_5 ?hf18_5 ?hr18_5 ?hQ18_5 ?hy18_5 (by assumption) ?rest18_5
                    case hi18_5 => simp only [List.getElem?_toArray, List.getElem?_cons_succ, List.getElem?_cons_zero] <;> rfl
                    case hs18_5 => kernel_rfl
                    case hf18_5 => kernel_rfl
                    case hr18_5 => kernel_rfl
                    case hQ18_5 => exact fun _ _ _ h => h
                    case hy18_5 => exact Or.inl ⟨by rfl, fun w hSw => by have q0 := cell_keep er hSw; have q1 := cell_keep ex hSw; have q2 := cell_keep e18 hSw; have q3 := cell_keep fr hSw; have q4 := cell_keep fx hSw; go_simp <;> (try with_reducible rfl)⟩
                    simp only [Act.put, List.setIfInBounds_toArray, List.set_cons_zero, List.set_cons_succ]
                    refine' wpAnyH_take (i := 19) ?hi19_5 ?hs19_5 ?hf19_5 ?hr19_5 ?hQ19_5 ?hy19_5 (by assumption) ?rest19_5
                    case hi19_5 => simp only [List.getElem?_toArray, List.getElem?_cons_succ, List.getElem?_cons_zero] <;> rfl
                    case hs19_5 => kernel_rfl
                    case hf19_5 => kernel_rfl
                    case hr19_5 => kernel_rfl
                    case hQ19_5 => exact fun _ _ _ h => h
                    case hy19_5 => exact Or.inl ⟨by rfl, fun w hSw => by have q0 := cell_keep er hSw; have q1 := cell_keep ex hSw; have q2 := cell_keep e18 hSw; have q3 := cell_keep fr hSw; have q4 := cell_keep fx hSw; go_simp <;> (try with_reducible rfl)⟩
                    simp only [Act.put, List.setIfInBounds_toArray, List.set_cons_zero, List.set_cons_succ]
                    refine' wpAnyH_take (i := 20) ?hi20_5 ?hs20_5 ?hf20_5 ?hr20_5 ?hQ20_5 ?hy20_5 (by assumption) ?rest20_5
                    case hi20_5 => simp only [List.getElem?_toArray, List.getElem?_cons_succ, List.getElem?_cons_zero] <;> rfl
                    case hs20_5 => kernel_rfl
                    case hf20_5 => kernel_rfl
                    case hr20_5 => kernel_rfl
                    case hQ20_5 => exact fun _ _ _ h => h
                    case hy20_5 => exact Or.inl ⟨by rfl, fun w hSw => by have q0 := cell_keep er hSw; have q1 := cell_keep ex hSw; have q2 := cell_keep e18 hSw; have q3 := cell_keep fr hSw; have q4 := cell_keep fx hSw; go_simp <;> (try with_reducible rfl)⟩
                    simp only [Act.put, List.setIfInBounds_toArray, List.set_cons_zero, List.set_cons_succ]
                    refine wpAnyH_done (by kernel_rfl) ?_ _
                    refine NoPanic.normal ?_
                    go_wp2_with fail
                    go_roundw
                    case rel => exact ⟨k + 1, by omega, by go_num, Keeps.trans kq hHeld⟩
                    case measure => simp [intOf]; omega
                · obtain rfl : k = j := by omega
                  go_wp2_with fail
                  go_roundw
                  case rel => exact ⟨k + 1, by omega, by go_num, kq⟩
                  case measure => simp [intOf]; omega
            · obtain rfl : j = nz := by omega
              have ya0 := cell_keep (BYa.c 0 _ rfl) ko
              have ya1 := cell_keep (BYa.c 1 _ rfl) ko
              have ya2 := cell_keep (BYa.c 2 _ rfl) ko
              have ya6 := cell_keep (BYa.c 6 _ rfl) ko
              have ya7 := cell_keep (BYa.c 7 _ rfl) ko
              have ya8 := cell_keep (BYa.c 8 _ rfl) ko
              have yb0 := cell_keep (BYb.c 0 _ rfl) ko
              have yb1 := cell_keep (BYb.c 1 _ rfl) ko
              have yb2 := cell_keep (BYb.c 2 _ rfl) ko
              have yb6 := cell_keep (BYb.c 6 _ rfl) ko
              have yb7 := cell_keep (BYb.c 7 _ rfl) ko
              have yb8 := cell_keep (BYb.c 8 _ rfl) ko
              go_upto_region 23 with fail
              refine wp_region_noPanic ?_
              refine wp_region_held_drew (S := (fun w' => Keeps wo w')) (by kernel_rfl) (Touch.refl _ wo).drew (fun hHeld => ?_)
              refine' wpAnyH_take (i := 0) ?hi0_6 ?hs0_6 ?hf0_6 ?hr0_6 ?hQ0_6 ?hy0_6 (by assumption) ?rest0_6
              case hi0_6 => simp only [List.getElem?_toArray, List.getElem?_cons_zero] <;> rfl
              case hs0_6 => kernel_rfl
              case hf0_6 => kernel_rfl
              case hr0_6 => kernel_rfl
              case hQ0_6 => exact fun _ _ _ h => h
              case hy0_6 => exact Or.inl ⟨by rfl, fun w hSw => by have q0 := cell_keep c18 hSw; have u0 := cell_keep ya0 hSw; have v0 := cell_keep yb0 hSw; have u1 := cell_keep ya1 hSw; have v1 := cell_keep yb1 hSw; have u2 := cell_keep ya2 hSw; have v2 := cell_keep yb2 hSw; have u6 := cell_keep ya6 hSw; have v6 := cell_keep yb6 hSw; have u7 := cell_keep ya7 hSw; have v7 := cell_keep yb7 hSw; have u8 := cell_keep ya8 hSw; have v8 := cell_keep yb8 hSw; go_simp <;> (try with_reducible rfl)⟩
              simp only [Act.put, List.setIfInBounds_toArray, List.set_cons_zero, List.set_cons_succ]
              refine' wpAnyH_take (i := 1) ?hi1_6 ?hs1_6 ?hf1_6 ?hr1_6 ?hQ1_6 ?hy1_6 (by assumption) ?rest1_6
              case hi1_6 => simp only [List.getElem?_toArray, List.getElem?_cons_succ, List.getElem?_cons_zero] <;> rfl
              case hs1_6 => kernel_rfl
              case hf1_6 => kernel_rfl
              case hr1_6 => kernel_rfl
              case hQ1_6 => exact fun _ _ _ h => h
              case hy1_6 => exact Or.inl ⟨by rfl, fun w hSw => by have q0 := cell_keep c18 hSw; have u0 := cell_keep ya0 hSw; have v0 := cell_keep yb0 hSw; have u1 := cell_keep ya1 hSw; have v1 := cell_keep yb1 hSw; have u2 := cell_keep ya2 hSw; have v2 := cell_keep yb2 hSw; have u6 := cell_keep ya6 hSw; have v6 := cell_keep yb6 hSw; have u7 := cell_keep ya7 hSw; have v7 := cell_keep yb7 hSw; have u8 := cell_keep ya8 hSw; have v8 := cell_keep yb8 hSw; go_simp <;> (try with_reducible rfl)⟩
              simp only [Act.put, List.setIfInBounds_toArray, List.set_cons_zero, List.set_cons_succ]
              refine' wpAnyH_take (i := 2) ?hi2_6 ?hs2_6 ?hf2_6 ?hr2_6 ?hQ2_6 ?hy2_6 (by assumption) ?rest2_6
              case hi2_6 => simp only [List.getElem?_toArray, List.getElem?_cons_succ, List.getElem?_cons_zero] <;> rfl
              case hs2_6 => kernel_rfl
              case hf2_6 => kernel_rfl
              case hr2_6 => kernel_rfl
              case hQ2_6 => exact fun _ _ _ h => h
              case hy2_6 => exact Or.inl ⟨by rfl, fun w hSw => by have q0 := cell_keep c18 hSw; have u0 := cell_keep ya0 hSw; have v0 := cell_keep yb0 hSw; have u1 := cell_keep ya1 hSw; have v1 := cell_keep yb1 hSw; have u2 := cell_keep ya2 hSw; have v2 := cell_keep yb2 hSw; have u6 := cell_keep ya6 hSw; have v6 := cell_keep yb6 hSw; have u7 := cell_keep ya7 hSw; have v7 := cell_keep yb7 hSw; have u8 := cell_keep ya8 hSw; have v8 := cell_keep yb8 hSw; go_simp <;> (try with_reducible rfl)⟩
              simp only [Act.put, List.setIfInBounds_toArray, List.set_cons_zero, List.set_cons_succ]
              refine' wpAnyH_take (i := 3) ?hi3_6 ?hs3_6 ?hf3_6 ?hr3_6 ?hQ3_6 ?hy3_6 (by assumption) ?rest3_6
              case hi3_6 => simp only [List.getElem?_toArray, List.getElem?_cons_succ, List.getElem?_cons_zero] <;> rfl
              case hs3_6 => kernel_rfl
              case hf3_6 => kernel_rfl
              case hr3_6 => kernel_rfl
              case hQ3_6 => exact fun _ _ _ h => h
              case hy3_6 => exact Or.inl ⟨by rfl, fun w hSw => by have q0 := cell_keep c18 hSw; have u0 := cell_keep ya0 hSw; have v0 := cell_keep yb0 hSw; have u1 := cell_keep ya1 hSw; have v1 := cell_keep yb1 hSw; have u2 := cell_keep ya2 hSw; have v2 := cell_keep yb2 hSw; have u6 := cell_keep ya6 hSw; have v6 := cell_keep yb6 hSw; have u7 := cell_keep ya7 hSw; have v7 := cell_keep yb7 hSw; have u8 := cell_keep ya8 hSw; have v8 := cell_keep yb8 hSw; go_simp <;> (try with_reducible rfl)⟩
              simp only [Act.put, List.setIfInBounds_toArray, List.set_cons_zero, List.set_cons_succ]
              refine' wpAnyH_take (i := 4) ?hi4_6 ?hs4_6 ?hf4_6 ?hr4_6 ?hQ4_6 ?hy4_6 (by assumption) ?rest4_6
              case hi4_6 => simp only [List.getElem?_toArray, List.getElem?_cons_succ, List.getElem?_cons_zero] <;> rfl
              case hs4_6 => kernel_rfl
              case hf4_6 => kernel_rfl
              case hr4_6 => kernel_rfl
              case hQ4_6 => exact fun _ _ _ h => h
              case hy4_6 => exact Or.inl ⟨by rfl, fun w hSw => by have q0 := cell_keep c18 hSw; have u0 := cell_keep ya0 hSw; have v0 := cell_keep yb0 hSw; have u1 := cell_keep ya1 hSw; have v1 := cell_keep yb1 hSw; have u2 := cell_keep ya2 hSw; have v2 := cell_keep yb2 hSw; have u6 := cell_keep ya6 hSw; have v6 := cell_keep yb6 hSw; have u7 := cell_keep ya7 hSw; have v7 := cell_keep yb7 hSw; have u8 := cell_keep ya8 hSw; have v8 := cell_keep yb8 hSw; go_simp <;> (try with_reducible rfl)⟩
              simp only [Act.put, List.setIfInBounds_toArray, List.set_cons_zero, List.set_cons_succ]
              refine' wpAnyH_take (i := 5) ?hi5_6 ?hs5_6 ?hf5_6 ?hr5_6 ?hQ5_6 ?hy5_6 (by assumption) ?rest5_6
              case hi5_6 => simp only [List.getElem?_toArray, List.getElem?_cons_succ, List.getElem?_cons_zero] <;> rfl
              case hs5_6 => kernel_rfl
              case hf5_6 => kernel_rfl
              case hr5_6 => kernel_rfl
              case hQ5_6 => exact fun _ _ _ h => h
              case hy5_6 => exact Or.inl ⟨by rfl, fun w hSw => by have q0 := cell_keep c18 hSw; have u0 := cell_keep ya0 hSw; have v0 := cell_keep yb0 hSw; have u1 := cell_keep ya1 hSw; have v1 := cell_keep yb1 hSw; have u2 := cell_keep ya2 hSw; have v2 := cell_keep yb2 hSw; have u6 := cell_keep ya6 hSw; have v6 := cell_keep yb6 hSw; have u7 := cell_keep ya7 hSw; have v7 := cell_keep yb7 hSw; have u8 := cell_keep ya8 hSw; have v8 := cell_keep yb8 hSw; go_simp <;> (try with_reducible rfl)⟩
              simp only [Act.put, List.setIfInBounds_toArray, List.set_cons_zero, List.set_cons_succ]
              refine' wpAnyH_take (i := 6) ?hi6_6 ?hs6_6 ?hf6_6 ?hr6_6 ?hQ6_6 ?hy6_6 (by assumption) ?rest6_6
              case hi6_6 => simp only [List.getElem?_toArray, List.getElem?_cons_succ, List.getElem?_cons_zero] <;> rfl
              case hs6_6 => kernel_rfl
              case hf6_6 => kernel_rfl
              case hr6_6 => kernel_rfl
              case hQ6_6 => exact fun _ _ _ h => h
              case hy6_6 => exact Or.inl ⟨by rfl, fun w hSw => by have q0 := cell_keep c18 hSw; have u0 := cell_keep ya0 hSw; have v0 := cell_keep yb0 hSw; have u1 := cell_keep ya1 hSw; have v1 := cell_keep yb1 hSw; have u2 := cell_keep ya2 hSw; have v2 := cell_keep yb2 hSw; have u6 := cell_keep ya6 hSw; have v6 := cell_keep yb6 hSw; have u7 := cell_keep ya7 hSw; have v7 := cell_keep yb7 hSw; have u8 := cell_keep ya8 hSw; have v8 := cell_keep yb8 hSw; go_simp <;> (try with_reducible rfl)⟩
              simp only [Act.put, List.setIfInBounds_toArray, List.set_cons_zero, List.set_cons_succ]
              refine' wpAnyH_take (i := 7) ?hi7_6 ?hs7_6 ?hf7_6 ?hr7_6 ?hQ7_6 ?hy7_6 (by assumption) ?rest7_6
              case hi7_6 => simp only [List.getElem?_toArray, List.getElem?_cons_succ, List.getElem?_cons_zero] <;> rfl
              case hs7_6 => kernel_rfl
              case hf7_6 => kernel_rfl
              case hr7_6 => kernel_rfl
              case hQ7_6 => exact fun _ _ _ h => h
              case hy7_6 => exact Or.inl ⟨by rfl, fun w hSw => by have q0 := cell_keep c18 hSw; have u0 := cell_keep ya0 hSw; have v0 := cell_keep yb0 hSw; have u1 := cell_keep ya1 hSw; have v1 := cell_keep yb1 hSw; have u2 := cell_keep ya2 hSw; have v2 := cell_keep yb2 hSw; have u6 := cell_keep ya6 hSw; have v6 := cell_keep yb6 hSw; have u7 := cell_keep ya7 hSw; have v7 := cell_keep yb7 hSw; have u8 := cell_keep ya8 hSw; have v8 := cell_keep yb8 hSw; go_simp <;> (try with_reducible rfl)⟩
              simp only [Act.put, List.setIfInBounds_toArray, List.set_cons_zero, List.set_cons_succ]
              refine' wpAnyH_take (i := 8) ?hi8_6 ?hs8_6 ?hf8_6 ?hr8_6 ?hQ8_6 ?hy8_6 (by assumption) ?rest8_6
              case hi8_6 => simp only [List.getElem?_toArray, List.getElem?_cons_succ, List.getElem?_cons_zero] <;> rfl
              case hs8_6 => kernel_rfl
              case hf8_6 => kernel_rfl
              case hr8_6 => kernel_rfl
              case hQ8_6 => exact fun _ _ _ h => h
              case hy8_6 => exact Or.inl ⟨by rfl, fun w hSw => by have q0 := cell_keep c18 hSw; have u0 := cell_keep ya0 hSw; have v0 := cell_keep yb0 hSw; have u1 := cell_keep ya1 hSw; have v1 := cell_keep yb1 hSw; have u2 := cell_keep ya2 hSw; have v2 := cell_keep yb2 hSw; have u6 := cell_keep ya6 hSw; have v6 := cell_keep yb6 hSw; have u7 := cell_keep ya7 hSw; have v7 := cell_keep yb7 hSw; have u8 := cell_keep ya8 hSw; have v8 := cell_keep yb8 hSw; go_simp <;> (try with_reducible rfl)⟩
              simp only [Act.put, List.setIfInBounds_toArray, List.set_cons_zero, List.set_cons_succ]
              refine' wpAnyH_take (i := 10) ?hi10_6 ?hs10_6 ?hf10_6 ?hr10_6 ?hQ10_6 ?hy10_6 (by assumption) ?rest10_6
              case hi10_6 => simp only [List.getElem?_toArray, List.getElem?_cons_succ, List.getElem?_cons_zero] <;> rfl
              case hs10_6 => kernel_rfl
              case hf10_6 => kernel_rfl
              case hr10_6 => kernel_rfl
              case hQ10_6 => exact fun _ _ _ h => h
              case hy10_6 => exact Or.inl ⟨by rfl, fun w hSw => by have q0 := cell_keep c18 hSw; have u0 := cell_keep ya0 hSw; have v0 := cell_keep yb0 hSw; have u1 := cell_keep ya1 hSw; have v1 := cell_keep yb1 hSw; have u2 := cell_keep ya2 hSw; have v2 := cell_keep yb2 hSw; have u6 := cell_keep ya6 hSw; have v6 := cell_keep yb6 hSw; have u7 := cell_keep ya7 hSw; have v7 := cell_keep yb7 hSw; have u8 := cell_keep ya8 hSw; have v8 := cell_keep yb8 hSw; go_simp <;> (try with_reducible rfl)⟩
              simp only [Act.put, List.setIfInBounds_toArray, List.set_cons_zero, List.set_cons_succ]
              refine' wpAnyH_take (i := 11) ?hi11_6 ?hs11_6 ?hf11_6 ?hr11_6 ?hQ11_6 ?hy11_6 (by assumption) ?rest11_6
              case hi11_6 => simp only [List.getElem?_toArray, List.getElem?_cons_succ, List.getElem?_cons_zero] <;> rfl
              case hs11_6 => kernel_rfl
              case hf11_6 => kernel_rfl
              case hr11_6 => kernel_rfl
              case hQ11_6 => exact fun _ _ _ h => h
              case hy11_6 => exact Or.inl ⟨by rfl, fun w hSw => by have q0 := cell_keep c18 hSw; have u0 := cell_keep ya0 hSw; have v0 := cell_keep yb0 hSw; have u1 := cell_keep ya1 hSw; have v1 := cell_keep yb1 hSw; have u2 := cell_keep ya2 hSw; have v2 := cell_keep yb2 hSw; have u6 := cell_keep ya6 hSw; have v6 := cell_keep yb6 hSw; have u7 := cell_keep ya7 hSw; have v7 := cell_keep yb7 hSw; have u8 := cell_keep ya8 hSw; have v8 := cell_keep yb8 hSw; go_simp <;> (try with_reducible rfl)⟩
              simp only [Act.put, List.setIfInBounds_toArray, List.set_cons_zero, List.set_cons_succ]
              refine' wpAnyH_take (i := 14) ?hi14_6 ?hs14_6 ?hf14_6 ?hr14_6 ?hQ14_6 ?hy14_6 (by assumption) ?rest14_6
              case hi14_6 => simp only [List.getElem?_toArray, List.getElem?_cons_succ, List.getElem?_cons_zero] <;> rfl
              case hs14_6 => kernel_rfl
              case hf14_6 => kernel_rfl
              case hr14_6 => kernel_rfl
              case hQ14_6 => exact fun _ _ _ h => h
              case hy14_6 => exact Or.inl ⟨by rfl, fun w hSw => by have q0 := cell_keep c18 hSw; have u0 := cell_keep ya0 hSw; have v0 := cell_keep yb0 hSw; have u1 := cell_keep ya1 hSw; have v1 := cell_keep yb1 hSw; have u2 := cell_keep ya2 hSw; have v2 := cell_keep yb2 hSw; have u6 := cell_keep ya6 hSw; have v6 := cell_keep yb6 hSw; have u7 := cell_keep ya7 hSw; have v7 := cell_keep yb7 hSw; have u8 := cell_keep ya8 hSw; have v8 := cell_keep yb8 hSw; go_simp <;> (try with_reducible rfl)⟩
              simp only [Act.put, List.setIfInBounds_toArray, List.set_cons_zero, List.set_cons_succ]
              refine' wpAnyH_take (i := 15) ?hi15_6 ?hs15_6 ?hf15_6 ?hr15_6 ?hQ15_6 ?hy15_6 (by assumption) ?rest15_6
              case hi15_6 => simp only [List.getElem?_toArray, List.getElem?_cons_succ, List.getElem?_cons_zero] <;> rfl
              case hs15_6 => kernel_rfl
              case hf15_6 => kernel_rfl
              case hr15_6 => kernel_rfl
              case hQ15_6 => exact fun _ _ _ h => h
              case hy15_6 => exact Or.inl ⟨by rfl, fun w hSw => by have q0 := cell_keep c18 hSw; have u0 := cell_keep ya0 hSw; have v0 := cell_keep yb0 hSw; have u1 := cell_keep ya1 hSw; have v1 := cell_keep yb1 hSw; have u2 := cell_keep ya2 hSw; have v2 := cell_keep yb2 hSw; have u6 := cell_keep ya6 hSw; have v6 := cell_keep yb6 hSw; have u7 := cell_keep ya7 hSw; have v7 := cell_keep yb7 hSw; have u8 := cell_keep ya8 hSw; have v8 := cell_keep yb8 hSw; go_simp <;> (try with_reducible rfl)⟩
              simp only [Act.put, List.setIfInBounds_toArray, List.set_cons_zero, List.set_cons_succ]
              refine' wpAnyH_take (i := 17) ?hi17_6 ?hs17_6 ?hf17_6 ?hr17_6 ?hQ17_6 ?hy17_6 (by assumption) ?rest17_6
              case hi17_6 => simp only [List.getElem?_toArray, List.getElem?_cons_succ, List.getElem?_cons_zero] <;> rfl
              case hs17_6 => kernel_rfl
              case hf17_6 => kernel_rfl
              case hr17_6 => kernel_rfl
              case hQ17_6 => exact fun _ _ _ h => h
              case hy17_6 => exact Or.inl ⟨by rfl, fun w hSw => by have q0 := cell_keep c18 hSw; have u0 := cell_keep ya0 hSw; have v0 := cell_keep yb0 hSw; have u1 := cell_keep ya1 hSw; have v1 := cell_keep yb1 hSw; have u2 := cell_keep ya2 hSw; have v2 := cell_keep yb2 hSw; have u6 := cell_keep ya6 hSw; have v6 := cell_keep yb6 hSw; have u7 := cell_keep ya7 hSw; have v7 := cell_keep yb7 hSw; have u8 := cell_keep ya8 hSw; have v8 := cell_keep yb8 hSw; go_simp <;> (try with_reducible rfl)⟩
              simp only [Act.put, List.setIfInBounds_toArray, List.set_cons_zero, List.set_cons_succ]
              refine' wpAnyH_take (i := 18) ?hi18_6 ?hs18_6 ?hf18_6 ?hr18_6 ?hQ18_6 ?hy18_6 (by assumption) ?rest18_6
              case hi18_6 => simp only [List.getElem?_toArray, List.getElem?_cons_succ, List.getElem?_cons_zero] <;> rfl
              case hs18_6 => kernel_rfl
              case hf18_6 => kernel_rfl
              case hr18_6 => kernel_rfl
              case hQ18_6 => exact fun _ _ _ h => h
              case hy18_6 => exact Or.inl ⟨by rfl, fun w hSw => by have q0 := cell_keep c18 hSw; have u0 := cell_keep ya0 hSw; have v0 := cell_keep yb0 hSw; have u1 := cell_keep ya1 hSw; have v1 := cell_keep yb1 hSw; have u2 := cell_keep ya2 hSw; have v2 := cell_keep yb2 hSw; have u6 := cell_keep ya6 hSw; have v6 := cell_keep yb6 hSw; have u7 := cell_keep ya7 hSw; have v7 := cell_keep yb7 hSw; have u8 := cell_keep ya8 hSw; have v8 := cell_keep yb8 hSw; go_simp <;> (try with_reducible rfl)⟩
              simp only [Act.put, List.setIfInBounds_toArray, List.set_cons_zero, List.set_cons_succ]
              refine wpAnyH_ready (rs := [9]) (by kernel_rfl) (by simp) ?_
              refine AllReadyH.cons rfl (fun K hK => ?_) AllReadyH.nil
              go_simp
              with_reducible refine Calls.mono (HU1.out _) ?_
              rintro e w20 ⟨rfl, k20⟩
              go_wp2_with fail
              refine hK.out _ _ (Keeps.trans hHeld k20) (fun hHeld => ?_)
              clear hK K
              try simp only [Act.put, List.setIfInBounds_toArray, List.set_cons_zero, List.set_cons_succ]
              refine wpAnyH_ready (rs := [12]) (by kernel_rfl) (by simp) ?_
              refine AllReadyH.cons rfl (fun K hK => ?_) AllReadyH.nil
              go_simp
              with_reducible refine Calls.mono (HU2.out _) ?_
              rintro e w21 ⟨rfl, k21⟩
              go_wp2_with fail
              refine hK.out _ _ (Keeps.trans hHeld k21) (fun hHeld => ?_)
              clear hK K
              try simp only [Act.put, List.setIfInBounds_toArray, List.set_cons_zero, List.set_cons_succ]
              refine' wpAnyH_take (i := 13) ?hi13_6 ?hs13_6 ?hf13_6 ?hr13_6 ?hQ13_6 ?hy13_6 (by assumption) ?rest13_6
              case hi13_6 => simp only [List.getElem?_toArray, List.getElem?_cons_succ, List.getElem?_cons_zero] <;> rfl
              case hs13_6 => kernel_rfl
              case hf13_6 => kernel_rfl
              case hr13_6 => kernel_rfl
              case hQ13_6 => exact fun _ _ _ h => h
              case hy13_6 => exact Or.inl ⟨by rfl, fun w hSw => by have q0 := cell_keep c18 hSw; have u0 := cell_keep ya0 hSw; have v0 := cell_keep yb0 hSw; have u1 := cell_keep ya1 hSw; have v1 := cell_keep yb1 hSw; have u2 := cell_keep ya2 hSw; have v2 := cell_keep yb2 hSw; have u6 := cell_keep ya6 hSw; have v6 := cell_keep yb6 hSw; have u7 := cell_keep ya7 hSw; have v7 := cell_keep yb7 hSw; have u8 := cell_keep ya8 hSw; have v8 := cell_keep yb8 hSw; go_simp <;> (try with_reducible rfl)⟩
              simp only [Act.put, List.setIfInBounds_toArray, List.set_cons_zero, List.set_cons_succ]
              refine wpAnyH_ready (rs := [16]) (by kernel_rfl) (by simp) ?_
              refine AllReadyH.cons rfl (fun K hK => ?_) AllReadyH.nil
              go_simp
              with_reducible refine Calls.mono (HU3.out _) ?_
              rintro e w22 ⟨rfl, k22⟩
              go_wp2_with fail
              refine hK.out _ _ (Keeps.trans hHeld k22) (fun hHeld => ?_)
              clear hK K
              try simp only [Act.put, List.setIfInBounds_toArray, List.set_cons_zero, List.set_cons_succ]
              refine wpAnyH_ready (rs := [19]) (by kernel_rfl) (by simp) ?_
              refine AllReadyH.cons rfl (fun K hK => ?_) AllReadyH.nil
              go_simp
              with_reducible refine Calls.mono (HU4.out _) ?_
              rintro e w23 ⟨rfl, k23⟩
              go_wp2_with fail
              refine hK.out _ _ (Keeps.trans hHeld k23) (fun hHeld => ?_)
              clear hK K
              try simp only [Act.put, List.setIfInBounds_toArray, List.set_cons_zero, List.set_cons_succ]
              refine' wpAnyH_take (i := 20) ?hi20_6 ?hs20_6 ?hf20_6 ?hr20_6 ?hQ20_6 ?hy20_6 (by assumption) ?rest20_6
              case hi20_6 => simp only [List.getElem?_toArray, List.getElem?_cons_succ, List.getElem?_cons_zero] <;> rfl
              case hs20_6 => kernel_rfl
              case hf20_6 => kernel_rfl
              case hr20_6 => kernel_rfl
              case hQ20_6 => exact fun _ _ _ h => h
              case hy20_6 => exact Or.inl ⟨by rfl, fun w hSw => by have q0 := cell_keep c18 hSw; have u0 := cell_keep ya0 hSw; have v0 := cell_keep yb0 hSw; have u1 := cell_keep ya1 hSw; have v1 := cell_keep yb1 hSw; have u2 := cell_keep ya2 hSw; have v2 := cell_keep yb2 hSw; have u6 := cell_keep ya6 hSw; have v6 := cell_keep yb6 hSw; have u7 := cell_keep ya7 hSw; have v7 := cell_keep yb7 hSw; have u8 := cell_keep ya8 hSw; have v8 := cell_keep yb8 hSw; go_simp <;> (try with_reducible rfl)⟩
              simp only [Act.put, List.setIfInBounds_toArray, List.set_cons_zero, List.set_cons_succ]
              refine' wpAnyH_take (i := 21) ?hi21_6 ?hs21_6 ?hf21_6 ?hr21_6 ?hQ21_6 ?hy21_6 (by assumption) ?rest21_6
              case hi21_6 => simp only [List.getElem?_toArray, List.getElem?_cons_succ, List.getElem?_cons_zero] <;> rfl
              case hs21_6 => kernel_rfl
              case hf21_6 => kernel_rfl
              case hr21_6 => kernel_rfl
              case hQ21_6 => exact fun _ _ _ h => h
              case hy21_6 => exact Or.inl ⟨by rfl, fun w hSw => by have q0 := cell_keep c18 hSw; have u0 := cell_keep ya0 hSw; have v0 := cell_keep yb0 hSw; have u1 := cell_keep ya1 hSw; have v1 := cell_keep yb1 hSw; have u2 := cell_keep ya2 hSw; have v2 := cell_keep yb2 hSw; have u6 := cell_keep ya6 hSw; have v6 := cell_keep yb6 hSw; have u7 := cell_keep ya7 hSw; have v7 := cell_keep yb7 hSw; have u8 := cell_keep ya8 hSw; have v8 := cell_keep yb8 hSw; go_simp <;> (try with_reducible rfl)⟩
              simp only [Act.put, List.setIfInBounds_toArray, List.set_cons_zero, List.set_cons_succ]
              refine' wpAnyH_take (i := 22) ?hi22_6 ?hs22_6 ?hf22_6 ?hr22_6 ?hQ22_6 ?hy22_6 (by assumption) ?rest22_6
              case hi22_6 => simp only [List.getElem?_toArray, List.getElem?_cons_succ, List.getElem?_cons_zero] <;> rfl
              case hs22_6 => kernel_rfl
              case hf22_6 => kernel_rfl
              case hr22_6 => kernel_rfl
              case hQ22_6 => exact fun _ _ _ h => h
              case hy22_6 => exact Or.inl ⟨by rfl, fun w hSw => by have q0 := cell_keep c18 hSw; have u0 := cell_keep ya0 hSw; have v0 := cell_keep yb0 hSw; have u1 := cell_keep ya1 hSw; have v1 := cell_keep yb1 hSw; have u2 := cell_keep ya2 hSw; have v2 := cell_keep yb2 hSw; have u6 := cell_keep ya6 hSw; have v6 := cell_keep yb6 hSw; have u7 := cell_keep ya7 hSw; have v7 := cell_keep yb7 hSw; have u8 := cell_keep ya8 hSw; have v8 := cell_keep yb8 hSw; go_simp <;> (try with_reducible rfl)⟩
              simp only [Act.put, List.setIfInBounds_toArray, List.set_cons_zero, List.set_cons_succ]
              refine' wpAnyH_take (i := 23) ?hi23_6 ?hs23_6 ?hf23_6 ?hr23_6 ?hQ23_6 ?hy23_6 (by assumption) ?rest23_6
              case hi23_6 => simp only [List.getElem?_toArray, List.getElem?_cons_succ, List.getElem?_cons_zero] <;> rfl
              case hs23_6 => kernel_rfl
              case hf23_6 => kernel_rfl
              case hr23_6 => kernel_rfl
              case hQ23_6 => exact fun _ _ _ h => h
              case hy23_6 => exact Or.inl ⟨by rfl, fun w hSw => by have q0 := cell_keep c18 hSw; have u0 := cell_keep ya0 hSw; have v0 := cell_keep yb0 hSw; have u1 := cell_keep ya1 hSw; have v1 := cell_keep yb1 hSw; have u2 := cell_keep ya2 hSw; have v2 := cell_keep yb2 hSw; have u6 := cell_keep ya6 hSw; have v6 := cell_keep yb6 hSw; have u7 := cell_keep ya7 hSw; have v7 := cell_keep yb7 hSw; have u8 := cell_keep ya8 hSw; have v8 := cell_keep yb8 hSw; go_simp <;> (try with_reducible rfl)⟩
              simp only [Act.put, List.setIfInBounds_toArray, List.set_cons_zero, List.set_cons_succ]
              refine wpAnyH_done (by kernel_rfl) ?_ _
              refine NoPanic.normal ?_
              go_wp2_with fail
              go_returns
              exact ⟨rfl, Keeps.trans K12 (Keeps.trans ko hHeld)⟩

end Go.Proofs.Ytabfbgkablbeeaa
