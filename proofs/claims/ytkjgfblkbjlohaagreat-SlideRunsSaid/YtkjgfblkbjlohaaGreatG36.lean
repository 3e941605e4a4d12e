/- Layer 16's made. -/
import Derived.Test.YtkjgfblkbjlohaaGreatG35
import Derived.Test.YtkjgfblkbjlohaaGreatG28
import Derived.Test.YtkjgfblkbjlohaaGreatG27
import Derived.Test.YtkjgfblkbjlohaaGreatG16
set_option linter.all false

namespace Go.Proofs.YtkjgfblkbjlohaaGreat
open Go.RowKit

structure Thg where
  cl : Int
  da : Int
  wh : Int
  st : Bool
def Thg.ok (t : Thg) : Prop := (0 ≤ t.cl ∧ t.cl ≤ 255) ∧ (0 ≤ t.da ∧ t.da ≤ 255) ∧ (0 ≤ t.wh ∧ t.wh ≤ 255)
def thF (T : Nat → Thg) : Nat → Value := fun j => if j % 4 = 0 then .int .u8 (T (j / 4)).cl else if j % 4 = 1 then .int .u8 (T (j / 4)).da else if j % 4 = 2 then .int .u8 (T (j / 4)).wh else .bool (T (j / 4)).st
/-- A World among the arguments. -/
structure WArg (w : World) (Ac : Option Addr) (m cc : Nat) (C : Nat → Cl) (Th : Option Addr) (nt : Nat) (T : Nat → Thg) (Rf : Option Addr) (nr : Nat) (R : Nat → Int) (Ro : Option Addr) (nz : Nat) (Z : Nat → Int) (s0 s1 s2 : Int) : Prop where
  cls : Rd w Ac (m * 4) (clF C)
  cn : Ac = none → m = 0 ∧ cc = 0
  cl : m ≤ 9223372036854775807
  ths : Rd w Th (nt * 4) (thF T)
  thok : ∀ i, i < nt → (T i).ok
  tl : nt ≤ 9223372036854775807
  refs : Rd w Rf (nr * 3) (intF .u8 R)
  rok : ∀ i, i < nr * 3 → 0 ≤ R i ∧ R i ≤ 255
  rl : nr ≤ 9223372036854775807
  roots : Rd w Ro nz (intF .u8 Z)
  zok : ∀ i, i < nz → 0 ≤ Z i ∧ Z i ≤ 255
  zl : nz ≤ 9223372036854775807
  s0 : 0 ≤ s0 ∧ s0 ≤ 255
  s1 : 0 ≤ s1 ∧ s1 ≤ 255
  s2 : 0 ≤ s2 ∧ s2 ≤ 255
theorem sz_life : (Tryz.prog.info? 36).map (·.size) = some 9 := by kernel_rfl
theorem zero_life (w : World) : (zeroValue 36).run Tryz.prog w = .ok (.agg #[.pointer none, .pointer none, .pointer none, .pointer none, .slice none 0 0, .slice none 0 0, .slice none 0 0, .slice none 0 0, .slice none 0 0]) w := by kernel_rfl
def MadeNo (w : World) (e : Ending) (w' : World) : Prop := e = .returned (.tuple #[.agg #[.pointer none, .pointer none, .pointer none, .pointer none, .slice none 0 0, .slice none 0 0, .slice none 0 0, .slice none 0 0, .slice none 0 0], .bool false]) ∧ Keeps w w'
def lifeV (ba bt gs scp : Nat) (av sv rv : Value) (Ac : Option Addr) (m cc : Nat) : Value := .agg #[.pointer (some ⟨ba, 0, none⟩), .pointer (some ⟨bt, 0, none⟩), .pointer (some ⟨ba, 0, none⟩), .pointer (some ⟨bt, 0, none⟩), .slice (some ⟨gs, 0, none⟩) 3 scp, av, sv, rv, .slice Ac m cc]
/-- A world that was made. -/
structure Made (w' : World) (lo : Nat) (ba bw : Nat) (f : Nat → Int) (bt : Nat) (A : Option Addr) (m cap : Nat) (C : Nat → Cl) (gs : Nat) (av sv rv : Value) (L : Nat → Sp) (G : Nat → List Int) (ats stay roots : List Int) : Prop where
  st : St w' ba bw 500 f bt A m cap C
  row : NowR 56 w' (some ⟨gs, 0, none⟩) 3 0 w'.heap.size L
  at_ : OwnInts w' lo av ats
  stay_ : OwnInts w' lo sv stay
  roots_ : OwnInts w' lo rv roots
  inv : LInv 500 m f C L G ats
  is : StayIs 500 m f C ats stay roots
  gs : lo ≤ gs ∧ gs ≠ bw
  low : lo ≤ bw ∧ lo ≤ ba
  avb : ∀ kk, av.ownBlock = some kk → kk ≠ bw
  svb : ∀ kk, sv.ownBlock = some kk → kk ≠ bw
  rvb : ∀ kk, rv.ownBlock = some kk → kk ≠ bw
  al : ats.length ≤ 60
  sl : stay.length ≤ 60
  rl : roots.length ≤ 20
def MadeOut (Ac : Option Addr) (m cc : Nat) (C : Nat → Cl) (nt : Nat) (T : Nat → Thg) (w : World) (e : Ending) (w' : World) : Prop :=
  MadeNo w e w' ∨ ∃ ba bw f bt A cap gs scp av sv rv L G ats stay roots, e = .returned (.tuple #[lifeV ba bt gs scp av sv rv Ac m cc, .bool true]) ∧ Made w' w.heap.size ba bw f bt A m cap C gs av sv rv L G ats stay roots ∧
    ((∀ i, i < nt → (T i).cl % ((m : Int) + 1) ≠ 0) → ∀ j, j < 3 → fullJ (atT 500 f m C) L G j) ∧ (m < 64 ∧ nt ≤ 60 ∧ 0 < m) ∧ Keeps w w'
set_option maxRecDepth 100000 in
set_option maxHeartbeats 8000000 in
theorem made_any (w : World) (Ac : Option Addr) (m cc : Nat) (C : Nat → Cl) (Th : Option Addr) (nt tc : Nat) (T : Nat → Thg) (Rf : Option Addr) (nr rc : Nat) (R : Nat → Int) (Ro : Option Addr) (nz zc : Nat) (Z : Nat → Int) (s0 s1 s2 : Int) (h : WArg w Ac m cc C Th nt T Rf nr R Ro nz Z s0 s1 s2) :
    Calls Tryz.prog 4 #[.agg #[.slice Ac m cc, .slice Th nt tc, .slice Rf nr rc, .slice Ro nz zc, .int .u8 s0, .int .u8 s1, .int .u8 s2]] w (MadeOut Ac m cc C nt T w) := by
  have HA := Lib.hid h
  have HNw := Lib.hid (show ∀ w', Keeps w w' → Calls Tryz.prog 14 #[.slice Ac m cc] w' fun e w2 => e = .returned (.int .i64 (newE C m)) ∧ Keeps w' w2 from fun w' k => rnew_cls Ac m cc C w' (h.cls.keep k) (by have := h.cl; omega))
  have hl1 := h.cl
  have hl2 := h.tl
  have hl3 := h.rl
  have hl4 := h.zl
  have hzl := zero_life
  clear h
  go_enter Tryz.func4, Tryz.ntmps4
  go_upto_region 1 with fail
  refine named_code (fun w1 hW1 => ?_)
  have K1 : Keeps w w1 := by rw [hW1]; exact ((Touch.refl _ w).alloc _).alloc _
  have BW : BL w1 w.heap.size 28 [.slice Ac m cc, .slice Th nt tc, .slice Rf nr rc, .slice Ro nz zc, .int .u8 s0, .int .u8 s1, .int .u8 s2] := by rw [hW1]; exact (BL.new1 w _ _ [.slice Ac m cc, .slice Th nt tc, .slice Rf nr rc, .slice Ro nz zc, .int .u8 s0, .int .u8 s1, .int .u8 s2] _ rfl rfl).alloc _
  have BR : BL w1 (w.heap.size + 1) 36 [.pointer none, .pointer none, .pointer none, .pointer none, .slice none 0 0, .slice none 0 0, .slice none 0 0, .slice none 0 0, .slice none 0 0] := by rw [hW1]; exact BL.new1 _ _ _ [.pointer none, .pointer none, .pointer none, .pointer none, .slice none 0 0, .slice none 0 0, .slice none 0 0, .slice none 0 0, .slice none 0 0] _ (by simp) rfl
  have z1 : w1.heap.size = w.heap.size + 2 := by rw [hW1]; simp
  clear hW1
  have c0 := BW.c 0 _ rfl
  have c1 := BW.c 1 _ rfl
  have c2 := BW.c 2 _ rfl
  have c3 := BW.c 3 _ rfl
  by_cases g0 : 60 < nt
  · have g0b : (60 : Int) < nt := by omega
    go_wp2_with (first | (refine store_bl ?_ 36 (.tmp 2) (.tmp 56) ?_ BR ?_ [.pointer none, .pointer none, .pointer none, .pointer none, .slice none 0 0, .slice none 0 0, .slice none 0 0, .slice none 0 0, .slice none 0 0] ?_ sz_life rfl rfl ?_; rfl; rfl; rfl; rfl; intro X BX kX))
    have s0 := BX.c 0 (.pointer none) rfl
    have s1 := BX.c 1 (.pointer none) rfl
    have s2 := BX.c 2 (.pointer none) rfl
    have s3 := BX.c 3 (.pointer none) rfl
    have s4 := BX.c 4 (.slice none 0 0) rfl
    have s5 := BX.c 5 (.slice none 0 0) rfl
    have s6 := BX.c 6 (.slice none 0 0) rfl
    have s7 := BX.c 7 (.slice none 0 0) rfl
    have s8 := BX.c 8 (.slice none 0 0) rfl
    refine bodyPost_ret (v := .tuple #[.agg #[.pointer none, .pointer none, .pointer none, .pointer none, .slice none 0 0, .slice none 0 0, .slice none 0 0, .slice none 0 0, .slice none 0 0], .bool false]) (by simp [results, Tryz.results4, go_sem, s0, s1, s2, s3, s4, s5, s6, s7, s8]) rfl (.inl ⟨rfl, Touch.new K1 kX (by omega)⟩)
  have g0b : decide ((60 : Int) < nt) = false := decide_eq_false (by omega)
  by_cases g1 : 200 < nr
  · have g1b : (200 : Int) < nr := by omega
    go_wp2_with (first | (refine store_bl ?_ 36 (.tmp 2) (.tmp 56) ?_ BR ?_ [.pointer none, .pointer none, .pointer none, .pointer none, .slice none 0 0, .slice none 0 0, .slice none 0 0, .slice none 0 0, .slice none 0 0] ?_ sz_life rfl rfl ?_; rfl; rfl; rfl; rfl; intro X BX kX))
    have s0 := BX.c 0 (.pointer none) rfl
    have s1 := BX.c 1 (.pointer none) rfl
    have s2 := BX.c 2 (.pointer none) rfl
    have s3 := BX.c 3 (.pointer none) rfl
    have s4 := BX.c 4 (.slice none 0 0) rfl
    have s5 := BX.c 5 (.slice none 0 0) rfl
    have s6 := BX.c 6 (.slice none 0 0) rfl
    have s7 := BX.c 7 (.slice none 0 0) rfl
    have s8 := BX.c 8 (.slice none 0 0) rfl
    refine bodyPost_ret (v := .tuple #[.agg #[.pointer none, .pointer none, .pointer none, .pointer none, .slice none 0 0, .slice none 0 0, .slice none 0 0, .slice none 0 0, .slice none 0 0], .bool false]) (by simp [results, Tryz.results4, go_sem, s0, s1, s2, s3, s4, s5, s6, s7, s8]) rfl (.inl ⟨rfl, Touch.new K1 kX (by omega)⟩)
  have g1b : decide ((200 : Int) < nr) = false := decide_eq_false (by omega)
  by_cases g2 : 20 < nz
  · have g2b : (20 : Int) < nz := by omega
    go_wp2_with (first | (refine store_bl ?_ 36 (.tmp 2) (.tmp 56) ?_ BR ?_ [.pointer none, .pointer none, .pointer none, .pointer none, .slice none 0 0, .slice none 0 0, .slice none 0 0, .slice none 0 0, .slice none 0 0] ?_ sz_life rfl rfl ?_; rfl; rfl; rfl; rfl; intro X BX kX))
    have s0 := BX.c 0 (.pointer none) rfl
    have s1 := BX.c 1 (.pointer none) rfl
    have s2 := BX.c 2 (.pointer none) rfl
    have s3 := BX.c 3 (.pointer none) rfl
    have s4 := BX.c 4 (.slice none 0 0) rfl
    have s5 := BX.c 5 (.slice none 0 0) rfl
    have s6 := BX.c 6 (.slice none 0 0) rfl
    have s7 := BX.c 7 (.slice none 0 0) rfl
    have s8 := BX.c 8 (.slice none 0 0) rfl
    refine bodyPost_ret (v := .tuple #[.agg #[.pointer none, .pointer none, .pointer none, .pointer none, .slice none 0 0, .slice none 0 0, .slice none 0 0, .slice none 0 0, .slice none 0 0], .bool false]) (by simp [results, Tryz.results4, go_sem, s0, s1, s2, s3, s4, s5, s6, s7, s8]) rfl (.inl ⟨rfl, Touch.new K1 kX (by omega)⟩)
  have g2b : decide ((20 : Int) < nz) = false := decide_eq_false (by omega)
  by_cases g3 : m = 0
  · subst g3
    go_wp2_with (first | (refine store_bl ?_ 36 (.tmp 2) (.tmp 56) ?_ BR ?_ [.pointer none, .pointer none, .pointer none, .pointer none, .slice none 0 0, .slice none 0 0, .slice none 0 0, .slice none 0 0, .slice none 0 0] ?_ sz_life rfl rfl ?_; rfl; rfl; rfl; rfl; intro X BX kX))
    have s0 := BX.c 0 (.pointer none) rfl
    have s1 := BX.c 1 (.pointer none) rfl
    have s2 := BX.c 2 (.pointer none) rfl
    have s3 := BX.c 3 (.pointer none) rfl
    have s4 := BX.c 4 (.slice none 0 0) rfl
    have s5 := BX.c 5 (.slice none 0 0) rfl
    have s6 := BX.c 6 (.slice none 0 0) rfl
    have s7 := BX.c 7 (.slice none 0 0) rfl
    have s8 := BX.c 8 (.slice none 0 0) rfl
    refine bodyPost_ret (v := .tuple #[.agg #[.pointer none, .pointer none, .pointer none, .pointer none, .slice none 0 0, .slice none 0 0, .slice none 0 0, .slice none 0 0, .slice none 0 0], .bool false]) (by simp [results, Tryz.results4, go_sem, s0, s1, s2, s3, s4, s5, s6, s7, s8]) rfl (.inl ⟨rfl, Touch.new K1 kX (by omega)⟩)
  have g3b : ((m : Int) == 0) = false := by simp; omega
  by_cases g4 : 63 < m
  · have g4b : (63 : Int) < m := by omega
    go_wp2_with (first | (refine store_bl ?_ 36 (.tmp 2) (.tmp 56) ?_ BR ?_ [.pointer none, .pointer none, .pointer none, .pointer none, .slice none 0 0, .slice none 0 0, .slice none 0 0, .slice none 0 0, .slice none 0 0] ?_ sz_life rfl rfl ?_; rfl; rfl; rfl; rfl; intro X BX kX))
    have s0 := BX.c 0 (.pointer none) rfl
    have s1 := BX.c 1 (.pointer none) rfl
    have s2 := BX.c 2 (.pointer none) rfl
    have s3 := BX.c 3 (.pointer none) rfl
    have s4 := BX.c 4 (.slice none 0 0) rfl
    have s5 := BX.c 5 (.slice none 0 0) rfl
    have s6 := BX.c 6 (.slice none 0 0) rfl
    have s7 := BX.c 7 (.slice none 0 0) rfl
    have s8 := BX.c 8 (.slice none 0 0) rfl
    refine bodyPost_ret (v := .tuple #[.agg #[.pointer none, .pointer none, .pointer none, .pointer none, .slice none 0 0, .slice none 0 0, .slice none 0 0, .slice none 0 0, .slice none 0 0], .bool false]) (by simp [results, Tryz.results4, go_sem, s0, s1, s2, s3, s4, s5, s6, s7, s8]) rfl (.inl ⟨rfl, Touch.new K1 kX (by omega)⟩)
  have g4b : decide ((63 : Int) < m) = false := decide_eq_false (by omega)
  have HE : newE C m = 0 ↔ ∀ j, j < m → rgB (C j) = true := by
    unfold newE
    split
    · rename_i hh
      rw [if_neg (by omega)]
      exact ⟨fun _ => hh, fun _ => rfl⟩
    · rename_i hh
      exact ⟨fun h => by omega, fun h => absurd h hh⟩
  by_cases hC0 : ∀ j, j < m → rgB (C j) = true
  · have hE0 := HE.2 hC0
    have HC := Lib.hid hC0
    rw [hE0] at HNw
    clear HE hE0 hC0
    have HCn := Lib.hid (show ∀ w', Keeps w w' → Calls Tryz.prog 15 #[.slice Ac m cc] w' fun e w2 => ∃ bt A' cap', e = .returned (.tuple #[.pointer (some ⟨bt, 0, none⟩), .int .i64 0]) ∧ Tb w2 bt A' m cap' C ∧ w'.heap.size ≤ bt ∧ (∀ b off, A' = some ⟨b, off, none⟩ → w'.heap.size ≤ b ∧ b < w2.heap.size) ∧ Keeps w' w2 from fun w' k => cnew_yes Ac m cc HA.out.cn C w' (HA.out.cls.keep k) (by omega) HC.out)
    go_wp2_with fail
    refine Calls.mono (HNw.out _ K1) ?_
    clear HNw
    rintro e w2 ⟨rfl, k2⟩
    have K2 := Keeps.trans K1 k2
    have BW2 := BW.keep k2
    have BR2 := BR.keep k2
    have z2 := k2.size
    have c0 := BW2.c 0 _ rfl
    clear BW BR k2 c1 c2 c3
    go_wp2_with fail
    refine Calls.mono (HCn.out _ K2) ?_
    clear HCn
    rintro e w3 ⟨bt, A, cap, rfl, hTb, hbt, hAb, k3⟩
    have K3 := Keeps.trans K2 k3
    have BW3 := BW2.keep k3
    have BR3 := BR2.keep k3
    have z3 := k3.size
    have hbl := hTb.head.lt
    have HTb := Lib.hid hTb
    have HAb := Lib.hid hAb
    have c4 := BW3.c 4 _ rfl
    have c5 := BW3.c 5 _ rfl
    have c6 := BW3.c 6 _ rfl
    have lw := BW3.lt
    clear BW2 BR2 k3 c0 hTb hAb
    obtain ⟨a1, a2⟩ := HA.out.s0
    obtain ⟨a3, a4⟩ := HA.out.s1
    obtain ⟨a5, a6⟩ := HA.out.s2
    have e0 : IntKind.i64.wrap s0 = s0 := IntWalk.i64_in _ ⟨by omega, by omega⟩
    have e1 : IntKind.i64.wrap s1 = s1 := IntWalk.i64_in _ ⟨by omega, by omega⟩
    have e2 : IntKind.i64.wrap s2 = s2 := IntWalk.i64_in _ ⟨by omega, by omega⟩
    obtain ⟨x0, hx0⟩ : ∃ x, s0.tmod 151 = x := ⟨_, rfl⟩
    obtain ⟨x1, hx1⟩ : ∃ x, s1.tmod 151 = x := ⟨_, rfl⟩
    obtain ⟨x2, hx2⟩ : ∃ x, s2.tmod 151 = x := ⟨_, rfl⟩
    have b0 : 0 ≤ x0 ∧ x0 ≤ 150 := by rw [Int.tmod_eq_emod_of_nonneg a1] at hx0; omega
    have b1 : 0 ≤ x1 ∧ x1 ≤ 150 := by rw [Int.tmod_eq_emod_of_nonneg a3] at hx1; omega
    have b2 : 0 ≤ x2 ∧ x2 ≤ 150 := by rw [Int.tmod_eq_emod_of_nonneg a5] at hx2; omega
    obtain ⟨Zf, hZf⟩ : ∃ Zf : Nat → Int, Zf = fun k => if k = 0 then x0 else if k = 1 then x1 else x2 := ⟨_, rfl⟩
    have HZf := Lib.hid hZf
    have HSp := Lib.hid (show ∀ w' N, Rd w' (some ⟨N, 0, none⟩) 3 (intF .i64 Zf) → Calls Tryz.prog 16 #[.int .i64 1, .slice (some ⟨N, 0, none⟩) 3 3] w' fun e w2 => ∃ ad cp, e = .returned (.tuple #[.slice ad 3 cp, .int .i64 0]) ∧ OwnSp 56 w2 w'.heap.size (.slice ad 3 cp) (splF 1 Zf) 3 ∧ Keeps w' w2 from fun w' N hr =>
      split_yes 1 _ 3 3 Zf w' hr (by omega) (fun k hk => by rw [hZf]; dsimp only; split <;> (try split) <;> omega) (by omega) (by simp only [offs, hZf]; simp; omega))
    have hrd := BL.new1 w3 3 _ [.int .i64 x0, .int .i64 x1, .int .i64 x2] w3.heap.size rfl rfl
    have hr3 : Rd (w3.alloc (.cells #[.int .i64 x0, .int .i64 x1, .int .i64 x2] 3)) (some ⟨w3.heap.size, 0, none⟩) 3 (intF .i64 Zf) := fun _ => ⟨w3.heap.size, 0, rfl, by simp, fun j hj => by
      rcases (by omega : j = 0 ∨ j = 1 ∨ j = 2) with rfl | rfl | rfl
      · rw [hrd.c 0 _ rfl, hZf]; rfl
      · rw [hrd.c 1 _ rfl, hZf]; rfl
      · rw [hrd.c 2 _ rfl, hZf]; rfl⟩
    have HR3 := Lib.hid hr3
    clear hrd hr3 hZf
    go_wp2_with fail
    refine Calls.mono (HSp.out _ _ HR3.out) ?_
    clear HSp HR3 c4 c5 c6
    rintro e w4 ⟨gsA, scp, rfl, hSp, k4⟩
    have hNow := hSp.now
    obtain ⟨gs, cq, _, hv, hgs, _, _, _⟩ := hSp.blk (by omega)
    simp only [Value.slice.injEq, true_and] at hv
    obtain ⟨rfl, rfl⟩ := hv
    have hgl : gs < w4.heap.size := (hSp.lt gs rfl).2
    have k34 : Keeps w3 w4 := Keeps.trans ((Touch.refl _ w3).alloc _) k4
    have hgs3 : w3.heap.size ≤ gs := by simp at hgs; omega
    have K4 := Keeps.trans K3 k34
    have BW4 := BW3.keep k34
    have BR4 := BR3.keep k34
    have HTb4 := Lib.hid (HTb.out.keep k34)
    have z4 := k34.size
    have HNow := Lib.hid hNow
    have c0 := BW4.c 0 _ rfl
    have lw4 := BW4.lt
    have HMn := Lib.hid (fun w' => mnew_any 500 (by omega) w')
    clear hSp hgs k4 k34 BW3 BR3 HTb hNow
    obtain ⟨w3', hw3'⟩ : ∃ w3' : World, w3' = w4 := ⟨_, rfl⟩
    go_wp2_with fail
    go_cut [8] from 87 to 93 (fun v wx => ∃ xb ba bw, v = .pointer (some ⟨xb, 0, none⟩) ∧ BL wx xb 36 [.pointer (some ⟨ba, 0, none⟩), .pointer (some ⟨bt, 0, none⟩), .pointer none, .pointer none, .slice (some ⟨gs, 0, none⟩) 3 scp, .slice none 0 0, .slice none 0 0, .slice none 0 0, .slice Ac m cc] ∧ Ar wx ba bw 500 (fun _ => 0) ∧ w4.heap.size ≤ xb ∧ w4.heap.size ≤ ba ∧ w4.heap.size ≤ bw ∧ xb ≠ ba ∧ xb ≠ bw ∧ Keeps w4 wx)
    case first =>
      clear HTb4 HNow HZf HC
      refine wp_region_noPanic ?_
      refine wp_region_held_drew (S := (fun w' => Keeps w4 w')) (by kernel_rfl) (Touch.refl _ w4).drew (fun hHeld => ?_)
      refine' wpAnyH_take (i := 1) ?hi1_6 ?hs1_6 ?hf1_6 ?hr1_6 ?hQ1_6 ?hy1_6 (by assumption) ?rest1_6
      case hi1_6 => simp only [List.getElem?_toArray, List.getElem?_cons_succ, List.getElem?_cons_zero] <;> rfl
      case hs1_6 => kernel_rfl
      case hf1_6 => kernel_rfl
      case hr1_6 => kernel_rfl
      case hQ1_6 => exact fun _ _ _ h => h
      case hy1_6 => exact Or.inl ⟨by rfl, fun w hSw => by have q0 := cell_keep c0 hSw; go_simp <;> (try with_reducible rfl)⟩
      simp only [Act.put, List.setIfInBounds_toArray, List.set_cons_zero, List.set_cons_succ]
      refine' wpAnyH_take (i := 2) ?hi2_6 ?hs2_6 ?hf2_6 ?hr2_6 ?hQ2_6 ?hy2_6 (by assumption) ?rest2_6
      case hi2_6 => simp only [List.getElem?_toArray, List.getElem?_cons_succ, List.getElem?_cons_zero] <;> rfl
      case hs2_6 => kernel_rfl
      case hf2_6 => kernel_rfl
      case hr2_6 => kernel_rfl
      case hQ2_6 => exact fun _ _ _ h => h
      case hy2_6 => exact Or.inl ⟨by rfl, fun w hSw => by have q0 := cell_keep c0 hSw; go_simp <;> (try with_reducible rfl)⟩
      simp only [Act.put, List.setIfInBounds_toArray, List.set_cons_zero, List.set_cons_succ]
      refine' wpAnyH_take (i := 3) ?hi3_6 ?hs3_6 ?hf3_6 ?hr3_6 ?hQ3_6 ?hy3_6 (by assumption) ?rest3_6
      case hi3_6 => simp only [List.getElem?_toArray, List.getElem?_cons_succ, List.getElem?_cons_zero] <;> rfl
      case hs3_6 => kernel_rfl
      case hf3_6 => kernel_rfl
      case hr3_6 => kernel_rfl
      case hQ3_6 => exact fun _ _ _ h => h
      case hy3_6 => exact Or.inl ⟨by rfl, fun w hSw => by have q0 := cell_keep c0 hSw; go_simp <;> (try with_reducible rfl)⟩
      simp only [Act.put, List.setIfInBounds_toArray, List.set_cons_zero, List.set_cons_succ]
      refine' wpAnyH_take (i := 4) ?hi4_6 ?hs4_6 ?hf4_6 ?hr4_6 ?hQ4_6 ?hy4_6 (by assumption) ?rest4_6
      case hi4_6 => simp only [List.getElem?_toArray, List.getElem?_cons_succ, List.getElem?_cons_zero] <;> rfl
      case hs4_6 => kernel_rfl
      case hf4_6 => kernel_rfl
      case hr4_6 => kernel_rfl
      case hQ4_6 => exact fun _ _ _ h => h
      case hy4_6 => exact Or.inl ⟨by rfl, fun w hSw => by have q0 := cell_keep c0 hSw; go_simp <;> (try with_reducible rfl)⟩
      simp only [Act.put, List.setIfInBounds_toArray, List.set_cons_zero, List.set_cons_succ]
      refine wpAnyH_ready (rs := [0, 6]) (by kernel_rfl) (by simp) ?_
      refine (AllReadyH.cons rfl (fun K hK => ?_) (AllReadyH.cons rfl (fun K hK => ?_) AllReadyH.nil))
      · go_simp
        with_reducible refine Calls.mono (HMn.out _) ?_
        rintro e wq ⟨ba, bw, rfl, hA4, hba, hbw, k4⟩
        go_wp2_with fail
        have hHeld4 := Keeps.trans hHeld k4
        refine hK.out _ _ hHeld4 (fun hHeld => ?_)
        clear hK K
        refine' wpAnyH_take (i := 5) ?hi5_7 ?hs5_7 ?hf5_7 ?hr5_7 ?hQ5_7 ?hy5_7 (by assumption) ?rest5_7
        case hi5_7 => simp only [List.getElem?_toArray, List.getElem?_cons_succ, List.getElem?_cons_zero] <;> rfl
        case hs5_7 => kernel_rfl
        case hf5_7 => kernel_rfl
        case hr5_7 => kernel_rfl
        case hQ5_7 => exact fun _ _ _ h => h
        case hy5_7 => exact Or.inl ⟨by rfl, fun w hSw => by go_simp <;> (try with_reducible rfl)⟩
        simp only [Act.put, List.setIfInBounds_toArray, List.set_cons_zero, List.set_cons_succ]
        refine wpAnyH_ready (rs := [6]) (by kernel_rfl) (by simp) ?_
        refine (AllReadyH.cons rfl (fun K hK => ?_) AllReadyH.nil)
        go_simp
        refine hK.out _ _ (Touch.alloc hHeld4 _) (fun hHeld => ?_)
        clear hK K
        refine wpAnyH_ready (rs := [7]) (by kernel_rfl) (by simp) ?_
        refine (AllReadyH.cons rfl (fun K hK => ?_) AllReadyH.nil)
        rw [if_pos (show Region.wanted _ _ = true from rfl)]
        go_simp
        refine hK.out _ _ (Touch.alloc hHeld4 _) (fun hHeld => ?_)
        clear hK K
        refine wpAnyH_done (by kernel_rfl) ?_ _
        refine NoPanic.normal ?_
        go_wp2_with fail
        go_meet
        have z4 := k4.size
        exact ⟨wq.heap.size, ba, bw, rfl, BL.new1 wq 36 _ [.pointer (some ⟨ba, 0, none⟩), .pointer (some ⟨bt, 0, none⟩), .pointer none, .pointer none, .slice (some ⟨gs, 0, none⟩) 3 scp, .slice none 0 0, .slice none 0 0, .slice none 0 0, .slice Ac m cc] _ rfl rfl, hA4.keep ((Touch.refl _ _).alloc _), hHeld4.size, hba, hbw, by have := hA4.lt1; omega, by have := hA4.lt2; omega, hHeld⟩
      · go_simp
        have ka : Keeps w4 ((w4.drew).alloc (.cells (#[.pointer none, .pointer none, .pointer none, .pointer none, .slice none 0 0, .slice none 0 0, .slice none 0 0, .slice none 0 0, .slice none 0 0]) 36)) := Touch.alloc hHeld _
        have B0 : BL ((w4.drew).alloc (.cells (#[.pointer none, .pointer none, .pointer none, .pointer none, .slice none 0 0, .slice none 0 0, .slice none 0 0, .slice none 0 0, .slice none 0 0]) 36)) w4.heap.size 36 [.pointer none, .pointer none, .pointer none, .pointer none, .slice none 0 0, .slice none 0 0, .slice none 0 0, .slice none 0 0, .slice none 0 0] := BL.new1 _ _ _ [.pointer none, .pointer none, .pointer none, .pointer none, .slice none 0 0, .slice none 0 0, .slice none 0 0, .slice none 0 0, .slice none 0 0] _ rfl rfl
        refine hK.out _ _ ka (fun hHeld => ?_)
        clear hK K
        refine wpAnyH_ready (rs := [0]) (by kernel_rfl) (by simp) ?_
        refine (AllReadyH.cons rfl (fun K hK => ?_) AllReadyH.nil)
        go_simp
        with_reducible refine Calls.mono (HMn.out _) ?_
        rintro e wq ⟨ba, bw, rfl, hA4, hba, hbw, k4⟩
        go_wp2_with fail
        have hHeld4 := Keeps.trans hHeld k4
        refine hK.out _ _ hHeld4 (fun hHeld => ?_)
        clear hK K
        refine' wpAnyH_take (i := 5) ?hi5_8 ?hs5_8 ?hf5_8 ?hr5_8 ?hQ5_8 ?hy5_8 (by assumption) ?rest5_8
        case hi5_8 => simp only [List.getElem?_toArray, List.getElem?_cons_succ, List.getElem?_cons_zero] <;> rfl
        case hs5_8 => kernel_rfl
        case hf5_8 => kernel_rfl
        case hr5_8 => kernel_rfl
        case hQ5_8 => exact fun _ _ _ h => h
        case hy5_8 => exact Or.inl ⟨by rfl, fun w hSw => by go_simp <;> (try with_reducible rfl)⟩
        simp only [Act.put, List.setIfInBounds_toArray, List.set_cons_zero, List.set_cons_succ]
        refine wpAnyH_ready (rs := [7]) (by kernel_rfl) (by simp) ?_
        refine (AllReadyH.cons rfl (fun K hK => ?_) AllReadyH.nil)
        rw [if_pos (show Region.wanted _ _ = true from rfl)]
        refine wp_store_bl 36 (.tmp 8) (.tmp 92) rfl (BL.keep B0 k4) rfl [.pointer (some ⟨ba, 0, none⟩), .pointer (some ⟨bt, 0, none⟩), .pointer none, .pointer none, .slice (some ⟨gs, 0, none⟩) 3 scp, .slice none 0 0, .slice none 0 0, .slice none 0 0, .slice Ac m cc] rfl sz_life rfl rfl ?_
        intro X BX kX
        have hba' : w4.heap.size + 1 ≤ ba := by simpa using hba
        have hbw' : w4.heap.size + 1 ≤ bw := by simpa using hbw
        refine hK.out _ _ (Touch.new hHeld4 kX (Nat.le_refl _)) (fun hHeld => ?_)
        clear hK K
        simp only [Act.put, List.setIfInBounds_toArray, List.set_cons_zero, List.set_cons_succ]
        refine wpAnyH_done (by kernel_rfl) ?_ _
        refine NoPanic.normal ?_
        go_wp2_with fail
        go_meet
        exact ⟨w4.heap.size, ba, bw, rfl, BX, hA4.touch kX (show ¬ ba = w4.heap.size by omega) (show ¬ bw = w4.heap.size by omega), Nat.le_refl _, by omega, by omega, by omega, by omega, hHeld⟩
    case rest =>
    obtain ⟨w5, rfl⟩ : ∃ w5 : World, w5 = wc := ⟨_, rfl⟩
    obtain ⟨xb, ba, bw, rfl, B5, hA5, hxb, hba, hbw, hxa, hxw, k5⟩ := hcut
    have K5 := Keeps.trans K4 k5
    have BW5 := BW4.keep k5
    have BR5 := BR4.keep k5
    have z5 := k5.size
    have HTb5 := Lib.hid (HTb4.out.keep k5)
    have HN5 := Lib.hid (HNow.out.touch k5 (fun _ _ _ h => h))
    have HA5 := Lib.hid hA5
    have hxl := B5.lt
    have hal := hA5.lt1
    have hbwl := hA5.lt2
    have l0 := B5.c 0 _ rfl
    have HOn := Lib.hid (on_any (some ⟨ba, 0, none⟩) (some ⟨bt, 0, none⟩))
    clear hA5 k5 HTb4 HNow c0 BW4 BR4
    go_wp2_with fail
    refine Calls.mono (HOn.out _) ?_
    clear HOn
    rintro e w6 ⟨rfl, k6⟩
    have B6 := B5.keep k6
    have z6 := k6.size
    have K6 := Keeps.trans K5 k6
    have BW6 := BW5.keep k6
    have BR6 := BR5.keep k6
    have l2 := B6.c 2 _ rfl
    have l3 := B6.c 3 _ rfl
    have fz2 := B6.fz 2
    have fz3 := B6.fz 3
    have c1 := BW6.c 1 _ rfl
    have lw6 := BW6.lt
    have hx6 := B6.lt
    have nWX : w.heap.size ≠ xb := by omega
    clear B5 BW5 BR5 l0
    go_wp2_with fail
    refine named_code (fun w7 hW7 => ?_)
    have o7 : Only xb w6 w7 := by rw [hW7]; exact Touch.set (Touch.set (Only.refl xb w6) 2 _) 3 _
    have B7 : BL w7 xb 36 [.pointer (some ⟨ba, 0, none⟩), .pointer (some ⟨bt, 0, none⟩), .pointer (some ⟨ba, 0, none⟩), .pointer (some ⟨bt, 0, none⟩), .slice (some ⟨gs, 0, none⟩) 3 scp, .slice none 0 0, .slice none 0 0, .slice none 0 0, .slice Ac m cc] := by rw [hW7]; exact BL.set (BL.set B6 2 (.pointer (some ⟨ba, 0, none⟩))) 3 (.pointer (some ⟨bt, 0, none⟩))
    have z7 : w7.heap.size = w6.heap.size := by rw [hW7]; simp
    clear hW7 l2 l3 fz2 fz3 c1
    have BW7 := BW6.touch o7 (show ¬ w.heap.size = xb from nWX)
    have BR7 := BR6.touch o7 (show ¬ w.heap.size + 1 = xb by omega)
    have K7 := K6.new o7 (by omega)
    have hC : ∀ j, j < m → (C j).ok := fun j hj => rgB_ok (HC.out j hj)
    have HCk := Lib.hid hC
    have hSt7 : St w7 ba bw 500 (fun _ => 0) bt A m cap C := ⟨(HA5.out.keep k6).touch o7 (Ne.symm hxa) (Ne.symm hxw), (HTb5.out.keep k6).touch o7 (show ¬ bt = xb by omega) (fun b off e h => by have := (HAb.out b off e).2; omega), by omega, fun b off e => by have := (HAb.out b off e).2; omega⟩
    have hN7 : NowR 56 w7 (some ⟨gs, 0, none⟩) 3 0 w7.heap.size (splF 1 Zf) := by
      have h1 := HN5.out.touch k6 (fun _ _ _ h => h)
      exact (h1.lower (Nat.zero_le _)).at_touch o7 (show ¬ gs = xb by omega) (by omega)
    have hL0 : ∀ j, j < 3 → 1 ≤ (splF 1 Zf j).f ∧ (splF 1 Zf j).f = (splF 1 Zf j).t ∧ (splF 1 Zf j).t ≤ (splF 1 Zf j).e ∧ (splF 1 Zf j).e ≤ 451 ∧ (∀ i, i + 1 = j → (splF 1 Zf i).e = (splF 1 Zf j).f) := fun j hj => by
      rw [HZf.out]
      rcases (by omega : j = 0 ∨ j = 1 ∨ j = 2) with rfl | rfl | rfl
      · simp [splF, offs]; omega
      · simp [splF, offs]; omega
      · simp [splF, offs]; omega
    have hI7 : LInv 500 m (fun _ => 0) C (splF 1 Zf) (fun _ => []) [] := by
      refine ⟨fun j hj => ⟨(rightB_iff _).2 ?_, ?_⟩, fun j hj => (hL0 j hj).2.2.2.1, fun j hj => ?_, fun x => ⟨fun hx => (by cases hx), fun ⟨j, _, hx⟩ => (by cases hx)⟩, List.nodup_nil, fun j _ => i64_small (by decide) (by decide), fun a ha => (by cases ha)⟩
      · have := hL0 j hj; omega
      · cases j with
        | zero => exact (hL0 0 hj).1
        | succ j => have := (hL0 (j + 1) hj).2.2.2.2 j rfl; show (splF 1 Zf j).e ≤ _; omega
      · rw [(hL0 j hj).2.1]; exact .nil _
    have hF7 : ∀ j, j < 3 → fullJ (atT 500 (fun _ => 0) m C) (splF 1 Zf) (fun _ => []) j := fun j hj => by
      unfold fullJ sumW
      have := (hL0 j hj).2.1
      simp; omega
    have HL0 := Lib.hid hL0
    obtain ⟨L0, hL0e⟩ : ∃ L0, L0 = splF 1 Zf := ⟨_, rfl⟩
    rw [← hL0e] at hN7 hI7 hF7 HL0
    have HS7 := Lib.hid hSt7
    have HN7 := Lib.hid hN7
    have HI7 := Lib.hid hI7
    have HF7 := Lib.hid hF7
    have HLay := Lib.hid (show ∀ wr f L G ats av, LSt wr ba bw 500 f bt A m cap C xb gs scp av (.slice none 0 0) (.slice none 0 0) Ac cc L G ats w6.heap.size → Keeps w wr → w6.heap.size ≤ wr.heap.size → ats.length ≤ 60 → ∀ t : Thg, t.ok → Calls Tryz.prog 19 #[.pointer (some ⟨xb, 0, none⟩), .agg #[.int .u8 t.cl, .int .u8 t.da, .int .u8 t.wh, .bool t.st]] wr (LayOut ba bw 500 f bt A m cap C xb gs scp av (.slice none 0 0) (.slice none 0 0) Ac cc L G ats w6.heap.size t.cl wr) from
      fun wr f L G ats av hs kk hz hal t ht => lay16_any ba bw 500 f bt A m cap C wr hs.st xb gs scp av _ _ Ac cc L G ats w6.heap.size hs.blk hs.row hs.at_ (HA.out.cls.keep kk) hs.inv (by omega) hxw (by omega) (by omega) hxa (by omega) (by omega) (by omega) (fun b off e => by have := (HAb.out b off e).2; omega) (by omega) (by omega) t.cl t.da t.wh t.st ht.1 ht.2.1 ht.2.2)
    clear hSt7 hN7 hI7 hF7 hL0 hC HN5 HTb5 HA5 B6 BW6 BR6 o7 k6 HZf hL0e
    go_loopw [9, 101] (fun sv i wr => ∃ (j : Nat) (f : Nat → Int) (L : Nat → Sp) (G : Nat → List Int) (ats stl : List Int) (av : Value), j ≤ nt ∧ i = .int .i64 j ∧ LSt wr ba bw 500 f bt A m cap C xb gs scp av (.slice none 0 0) (.slice none 0 0) Ac cc L G ats w6.heap.size ∧ OwnInts wr w6.heap.size sv stl ∧ (∀ x, x ∈ stl → x ∈ ats) ∧ ats.length ≤ j ∧ stl.length ≤ j ∧ (∀ j, (L j).f = (L0 j).f ∧ (L j).e = (L0 j).e) ∧ (∀ kk, av.ownBlock = some kk → sv.ownBlock ≠ some kk) ∧
      ((∀ i, i < j → (T i).cl % ((m : Int) + 1) ≠ 0) → ∀ j, j < 3 → fullJ (atT 500 f m C) L G j) ∧ BL wr w.heap.size 28 [.slice Ac m cc, .slice Th nt tc, .slice Rf nr rc, .slice Ro nz zc, .int .u8 s0, .int .u8 s1, .int .u8 s2] ∧ BL wr (w.heap.size + 1) 36 [.pointer none, .pointer none, .pointer none, .pointer none, .slice none 0 0, .slice none 0 0, .slice none 0 0, .slice none 0 0, .slice none 0 0] ∧ Keeps w wr ∧ w6.heap.size ≤ wr.heap.size) (fun _ i _ => nt - (intOf i).toNat)
    case atStart => exact ⟨0, fun _ => 0, L0, fun _ => [], [], [], .slice none 0 0, by omega, rfl, ⟨HS7.out, B7, HN7.out, OwnInts.nil_ _ _, HI7.out⟩, OwnInts.nil_ _ _, fun x hx => (by cases hx), by simp, by simp, fun j => ⟨rfl, rfl⟩, fun kk e => (by cases e), fun _ => HF7.out, BW7, BR7, K7, by omega⟩
    case round =>
      clear HS7 HN7 HI7 HF7 B7 BW7 BR7 K7
      obtain ⟨wo, rfl⟩ : ∃ wo : World, wo = wr := ⟨_, rfl⟩
      obtain ⟨j, f, L, G, ats, stl, av, hj, rfl, hLS, hst, hsub, hla, hls, hLf, hsep, hfull, BWo, BRo, K, zo⟩ := hrel
      have HLS := Lib.hid hLS
      have HSt := Lib.hid hst
      have HSub := Lib.hid hsub
      have HLf := Lib.hid hLf
      have HSep := Lib.hid hsep
      have HFull := Lib.hid hfull
      have c1 := BWo.c 1 _ rfl
      have HBW := Lib.hid BWo
      have HBR := Lib.hid BRo
      clear hLS hsub hLf hsep hfull
      by_cases hlt : j < nt
      · obtain ⟨tb, to_, hthe, hcells⟩ := (HA.out.ths.keep K).at_ (k := j) hlt (by omega)
        have d0 : wo.cell? ⟨tb, to_ + j * 4, none⟩ = some (.int .u8 (T j).cl) := by have := hcells 0 (by omega); simpa [thF] using this
        have d1 : wo.cell? ⟨tb, to_ + j * 4 + 1, none⟩ = some (.int .u8 (T j).da) := by
          have := hcells 1 (by omega)
          have e1 : (j * 4 + 1) / 4 = j := by omega
          have e2 : (j * 4 + 1) % 4 = 1 := by omega
          simpa [thF, e1, e2] using this
        have d2 : wo.cell? ⟨tb, to_ + j * 4 + 2, none⟩ = some (.int .u8 (T j).wh) := by
          have := hcells 2 (by omega)
          have e1 : (j * 4 + 2) / 4 = j := by omega
          have e2 : (j * 4 + 2) % 4 = 2 := by omega
          simpa [thF, e1, e2] using this
        have d3 : wo.cell? ⟨tb, to_ + j * 4 + 3, none⟩ = some (.bool (T j).st) := by
          have := hcells 3 (by omega)
          have e1 : (j * 4 + 3) / 4 = j := by omega
          have e2 : (j * 4 + 3) % 4 = 3 := by omega
          simpa [thF, e1, e2] using this
        have htb : tb < wo.heap.size := block_lt_of_cell d0
        have htl : tb < w.heap.size := by obtain ⟨b', o', e', h', _⟩ := HA.out.ths (by omega); rw [hthe] at e'; simp only [Option.some.injEq, Addr.mk.injEq] at e'; omega
        subst hthe
        clear hcells
        have htok := HA.out.thok j hlt
        have HCall := Lib.hid (HLay.out wo f L G ats av HLS.out K zo (by omega) (T j) htok)
        have HFc := Lib.hid (show ∀ P : Prop, ((∀ i, i < j → (T i).cl % ((m : Int) + 1) ≠ 0) → P) → ((∀ i, i < j + 1 → (T i).cl % ((m : Int) + 1) ≠ 0) → P ∧ (T j).cl % ((m : Int) + 1) ≠ 0) from fun P hp hh => ⟨hp (fun i hi => hh i (by omega)), hh j (by omega)⟩)
        generalize T j = t at *
        have hsl := hst.lt
        clear hst
        go_wp2_with fail
        refine Calls.mono HCall.out ?_
        clear HCall
        rintro e w8 ⟨b, f', L', G', ats', av', rfl, hLS8, hb1, hb0, hfe, how, hfu, ht⟩
        have hal := HLS.out.at_.lt
        have hS : ∀ kk, (kk = xb ∨ kk = bw ∨ kk = gs ∨ av.ownBlock = some kk) → w3.heap.size ≤ kk := fun kk h => by
          rcases h with h | h | h | h
          · omega
          · omega
          · omega
          · have := (hal kk h).1; omega
        have K8 : Keeps w w8 := Touch.trans K ht (fun x hx hlt => by have := hS x hx; omega)
        have HBW8 := Lib.hid (HBW.out.touch ht (fun h => by have := hS _ h; omega))
        have HBR8 := Lib.hid (HBR.out.touch ht (fun h => by have := hS _ h; omega))
        have HSt8 := Lib.hid (HSt.out.touch ht (fun kk e h => by
          have h1 := (hsl kk e).1
          rcases h with h | h | h | h
          · omega
          · omega
          · omega
          · exact HSep.out kk h e))
        have HSep8 := Lib.hid (show ∀ kk, av'.ownBlock = some kk → u9.ownBlock ≠ some kk from fun kk e e2 => by
          rcases how kk e with h | h
          · exact HSep.out kk h e2
          · have := (hsl kk e2).2; omega)
        have HFe8 := Lib.hid (show ∀ j, (L' j).f = (L0 j).f ∧ (L' j).e = (L0 j).e from fun j => ⟨(hfe j).1.trans (HLf.out j).1, (hfe j).2.trans (HLf.out j).2⟩)
        have HFu8 := Lib.hid (show (∀ i, i < j + 1 → (T i).cl % ((m : Int) + 1) ≠ 0) → ∀ j, j < 3 → fullJ (atT 500 f' m C) L' G' j from fun hh => by
          obtain ⟨h1, h2⟩ := HFc.out _ HFull.out hh
          exact hfu h2 h1)
        have hz8 := ht.size
        have HLS8 := Lib.hid hLS8
        have d3' := cell_t d3 ht (fun h => by have := hS _ h; dsimp only at this; omega)
        have c18 := HBW8.out.c 1 _ rfl
        clear hLS8 hfe how hfu d0 d1 d2 d3 HLS HSt HBW HBR HSep HLf HFull HFc c1
        cases b with
        | false =>
          have e8 := hb0 rfl
          subst e8
          clear hb0 hb1 d3'
          go_wp2_with fail
          go_roundw
          case rel => exact ⟨j + 1, f', L', G', _, stl, av', by omega, by go_num, HLS8.out, HSt8.out, HSub.out, by omega, by omega, HFe8.out, HSep8.out, HFu8.out, HBW8.out, HBR8.out, K8, by omega⟩
          case measure => simp [intOf]; omega
        | true =>
          obtain ⟨a, ha⟩ := hb1 rfl
          clear hb0 hb1
          have HSub8 := Lib.hid (show ∀ x, x ∈ stl → x ∈ ats' from fun x hx => by rw [ha]; exact List.mem_append_left _ (HSub.out x hx))
          have hl8 : ats'.length = ats.length + 1 := by rw [ha]; simp
          cases hts : t.st with
          | false =>
            rw [hts] at d3'
            have HA8 := Lib.hid ha
            clear ha hts
            go_wp2_with fail
            go_roundw
            case rel => exact ⟨j + 1, f', L', G', ats', stl, av', by omega, by go_num, HLS8.out, HSt8.out, HSub8.out, by omega, by omega, HFe8.out, HSep8.out, HFu8.out, HBW8.out, HBR8.out, K8, by omega⟩
            case measure => simp [intOf]; omega
          | true =>
            rw [hts] at d3'
            obtain ⟨ad8, cp8, hv8⟩ := HLS8.out.at_.form
            subst hv8
            have l5 : w8.cell? ⟨xb, 5, none⟩ = some (.slice ad8 ats'.length cp8) := BL.c HLS8.out.blk 5 _ rfl
            obtain ⟨p, hp⟩ : ∃ p : Nat, p = ats.length := ⟨_, rfl⟩
            obtain ⟨bb, bo, hbe, d4⟩ := HLS8.out.at_.rd.1.one (k := p) (by omega)
            subst hbe
            have eA : ats'.getD p 0 = a := by rw [ha, List.getD_eq_getElem?_getD, hp, List.getElem?_append_right (Nat.le_refl _)]; simp
            have d5 : w8.cell? ⟨bb, bo + p, none⟩ = some (.int .i64 (ats'.getD p 0)) := d4
            rw [eA] at d5
            have ham : a ∈ ats' := by rw [ha]; simp
            obtain ⟨q, hq⟩ : ∃ q : Nat, q = ats'.length := ⟨_, rfl⟩
            have gq : IntKind.i64.wrap ((q : Int) - 1) = p := by rw [IntWalk.i64_in _ ⟨by omega, by omega⟩]; omega
            have hpq : p < q := by omega
            have hpI : (p : Int) < q := by omega
            have hpb : bb ≠ xb := by have := HLS8.out.at_.rd.2 bb bo rfl; omega
            have hHp := Lib.hid hp
            have hql : q ≤ 61 ∧ q = ats.length + 1 := by omega
            have HQ := Lib.hid hq
            rw [← hq] at l5 HLS8 HSep8
            have HA8 := Lib.hid ha
            have HQl := Lib.hid hql
            clear ha hts hp hq hl8 hql d4 eA
            go_wp2_with (at_builtin; refine app_int ?_ (.tmp 118) (.tmp 127) ?_ w6.heap.size u9 stl (HSt8.out.alloc _) ?_ w8.heap.size a ?_ (cell_new _ _ _ _ rfl) (by omega) (by simp; omega) ?_; rfl; rfl; rfl; rfl; intro v' w9 hown' hgr hbl; have hlo := HSt8.out.lt; have ka := (Touch.refl (fun _ => False) w8).alloc (.cells #[.int .i64 a] 3); have og : Touch (fun kk => u9.ownBlock = some kk) w8 w9 := Touch.grown (ka.mono (fun _ h _ => h.elim)) hgr (fun kk e _ => e); have HO9 := Lib.hid hown'; have HB9 := Lib.hid (show ∀ kk, v'.ownBlock = some kk → u9.ownBlock = some kk ∨ w8.heap.size ≤ kk from fun kk e => by { rcases hbl with h | h; { exact .inl (h ▸ e) }; { rw [h] at e; simp at e; exact .inr (by omega) } }); clear hgr hbl hlo hown' ka)
            have hlo := HSt8.out.lt
            have HS9 : ∀ kk, u9.ownBlock = some kk → w6.heap.size ≤ kk := fun kk e => (hlo kk e).1
            have hlo9 := HLS8.out.at_.lt
            go_roundw
            case rel => exact ⟨j + 1, f', L', G', ats', stl ++ [a], _, by omega, by go_num,
              ⟨HLS8.out.st.touch og (fun h => by have := HS9 _ h; omega) (fun h => by have := HS9 _ h; omega) (fun h => by have := HS9 _ h; omega) (fun b off e h => by have := HS9 _ h; have := (HAb.out b off e).2; omega),
               BL.touch HLS8.out.blk og (fun h => by have := HS9 _ h; omega), HLS8.out.row.at_touch og (fun h => by have := HS9 _ h; omega) og.size, HLS8.out.at_.touch og (fun kk e h => HSep8.out kk e h), HLS8.out.inv⟩,
              HO9.out, fun x hx => by
                rcases List.mem_append.1 hx with hx | hx
                · exact HSub8.out x hx
                · simp at hx; subst hx; exact ham, by have := HQl.out; have := HQ.out; omega, by simp; omega, HFe8.out, fun kk e e2 => by
                rcases HB9.out kk e2 with h | h
                · exact HSep8.out kk e h
                · have := (hlo9 kk e).2; omega, HFu8.out, HBW8.out.touch og (fun h => by have := HS9 _ h; omega), HBR8.out.touch og (fun h => by have := HS9 _ h; omega), Touch.trans K8 og (fun x hx hlt => by have := HS9 x hx; omega), by have := og.size; omega⟩
            case measure => simp [intOf]; omega
      · obtain rfl : j = nt := by omega
        clear hst HLay c1
        obtain ⟨ad, cpa, hav⟩ := HLS.out.at_.form
        subst hav
        obtain ⟨na, hna⟩ : ∃ na : Nat, na = ats.length := ⟨_, rfl⟩
        have HNa := Lib.hid hna
        have HAt := Lib.hid HLS.out.at_
        rw [← hna] at HLS HSep hla
        have hna60 : na ≤ 60 := by omega
        have l5 : wo.cell? ⟨xb, 5, none⟩ = some (.slice ad na cpa) := BL.c HLS.out.blk 5 _ rfl
        have c2 := HBW.out.c 2 _ rfl
        have HRdA := Lib.hid (show Rd wo ad na (intF .i64 fun j => ats.getD j 0) from by rw [hna]; exact HAt.out.rd.1)
        have HLoA := Lib.hid (show ∀ b off, ad = some ⟨b, off, none⟩ → w6.heap.size ≤ b ∧ b < wo.heap.size from HAt.out.rd.2)
        have HMem := Lib.hid (show ∀ p, p < na → ats.getD p 0 ∈ ats from fun p hp => by rw [List.getD_eq_getElem?_getD, List.getElem?_eq_getElem (by omega)]; exact List.getElem_mem _)
        have HFull0 := Lib.hid HFull.out
        clear hna
        go_upto_block 2 with fail
        go_cut [] from 133 to 197 (fun wx => ∃ f', LSt wx ba bw 500 f' bt A m cap C xb gs scp (.slice ad na cpa) (.slice none 0 0) (.slice none 0 0) Ac cc L G ats w6.heap.size ∧ ((∀ j, j < 3 → fullJ (atT 500 f m C) L G j) → ∀ j, j < 3 → fullJ (atT 500 f' m C) L G j) ∧ Only bw wo wx)
        case first =>
          clear HFull HSub HSt HSep HBR hls HFull0
          go_wp2_with fail
          go_loopw [136] (fun i wr => ∃ (j2 : Nat) (g : Nat → Int), j2 ≤ nr ∧ i = .int .i64 j2 ∧ LSt wr ba bw 500 g bt A m cap C xb gs scp (.slice ad na cpa) (.slice none 0 0) (.slice none 0 0) Ac cc L G ats w6.heap.size ∧ ((∀ j, j < 3 → fullJ (atT 500 f m C) L G j) → ∀ j, j < 3 → fullJ (atT 500 g m C) L G j) ∧ Only bw wo wr) (fun i _ => nr - (intOf i).toNat)
          case atStart => exact ⟨0, f, by omega, rfl, HLS.out, fun h => h, Only.refl _ _⟩
          case round =>
            obtain ⟨w8, rfl⟩ : ∃ w8 : World, w8 = wr := ⟨_, rfl⟩
            obtain ⟨j2, g, hj2, rfl, hLS8, hfu8, o8⟩ := hrel
            have HL8 := Lib.hid hLS8
            have HFu8 := Lib.hid hfu8
            have hz8 := o8.size
            clear hLS8 hfu8
            by_cases hlt2 : j2 < nr
            · by_cases hn0 : na = 0
              · have hn0b : ((na : Int) == 0) = true := by simp; omega
                go_wp2_with fail
                go_meet
                exact ⟨g, HL8.out, HFu8.out, o8⟩
              · have hn0b : ((na : Int) == 0) = false := by simp; omega
                have hn0p : ¬ ((na : Int) = 0) := by omega
                have hn1p : ¬ ((na : Int) + 1 = 0) := by omega
                have gn1 : IntKind.i64.wrap ((na : Int) + 1) = (na : Int) + 1 := IntWalk.i64_in _ ⟨by omega, by omega⟩
                have K8 : Keeps w w8 := K.new o8 (by omega)
                obtain ⟨rb, ro, hre, hrc⟩ := (HA.out.refs.keep K8).at_ (k := j2) hlt2 (by omega)
                subst hre
                have u0 : w8.cell? ⟨rb, ro + j2 * 3, none⟩ = some (.int .u8 (R (j2 * 3))) := hrc 0 (by omega)
                have v1 : w8.cell? ⟨rb, ro + j2 * 3 + 1, none⟩ = some (.int .u8 (R (j2 * 3 + 1))) := hrc 1 (by omega)
                have v2 : w8.cell? ⟨rb, ro + j2 * 3 + 2, none⟩ = some (.int .u8 (R (j2 * 3 + 2))) := hrc 2 (by omega)
                have v0 := u0
                clear u0 hrc
                have nRB : rb ≠ bw := by
                  obtain ⟨b', o', he, hl, _⟩ := HA.out.refs (by omega)
                  simp only [Option.some.injEq, Addr.mk.injEq, and_true] at he
                  omega
                have nWB : w.heap.size ≠ bw := by omega
                obtain ⟨x0a, x0b⟩ := HA.out.rok (j2 * 3) (by omega)
                obtain ⟨x1a, x1b⟩ := HA.out.rok (j2 * 3 + 1) (by omega)
                obtain ⟨x2a, x2b⟩ := HA.out.rok (j2 * 3 + 2) (by omega)
                generalize R (j2 * 3) = y0 at *
                generalize R (j2 * 3 + 1) = y1 at *
                generalize R (j2 * 3 + 2) = y2 at *
                have gy0 : IntKind.i64.wrap y0 = y0 := IntWalk.i64_in _ ⟨by omega, by omega⟩
                have gy1 : IntKind.i64.wrap y1 = y1 := IntWalk.i64_in _ ⟨by omega, by omega⟩
                have gy2 : IntKind.i64.wrap y2 = y2 := IntWalk.i64_in _ ⟨by omega, by omega⟩
                obtain ⟨p1, hp1⟩ : ∃ p : Nat, y0.tmod (na : Int) = p := ⟨(y0.tmod na).toNat, by rw [Int.tmod_eq_emod_of_nonneg x0a]; have := Int.emod_nonneg y0 hn0p; omega⟩
                have hp1l : p1 < na := by have := Int.emod_lt_of_pos y0 (show (0 : Int) < na by omega); rw [Int.tmod_eq_emod_of_nonneg x0a] at hp1; omega
                obtain ⟨p2, hp2⟩ : ∃ p : Nat, y2.tmod ((na : Int) + 1) = p := ⟨(y2.tmod (na + 1)).toNat, by rw [Int.tmod_eq_emod_of_nonneg x2a]; have := Int.emod_nonneg y2 hn1p; omega⟩
                have hp2l : p2 ≤ na := by have := Int.emod_lt_of_pos y2 (show (0 : Int) < (na : Int) + 1 by omega); rw [Int.tmod_eq_emod_of_nonneg x2a] at hp2; omega
                have hp1I : (p1 : Int) < na := by omega
                have l5' : w8.cell? ⟨xb, 5, none⟩ = some (.slice ad na cpa) := BL.c HL8.out.blk 5 _ rfl
                have l2 := BL.c HL8.out.blk 2 _ rfl
                have l3 := BL.c HL8.out.blk 3 _ rfl
                have c28 := (HBW.out.touch o8 (show ¬ w.heap.size = bw by omega)).c 2 _ rfl
                obtain ⟨b5, o5, had, d5⟩ := (HRdA.out.keepS o8 (fun b off e h => by have := (HLoA.out b off e).1; omega)).one hp1l
                subst had
                have d6 : w8.cell? ⟨b5, o5 + p1, none⟩ = some (.int .i64 (ats.getD p1 0)) := d5
                have hfm := HMem.out p1 hp1l
                have HRd8 := Lib.hid (HRdA.out.keepS o8 (fun b off e h => by have := (HLoA.out b off e).1; omega))
                obtain ⟨to_, hto⟩ : ∃ to_ : Int, to_ = if p2 = 0 then 0 else ats.getD (p2 - 1) 0 := ⟨_, rfl⟩
                have htom : to_ = 0 ∨ to_ ∈ ats := by
                  rw [hto]; split
                  · exact .inl rfl
                  · exact .inr (HMem.out _ (by omega))
                have HTo := Lib.hid hto
                have HToM := Lib.hid htom
                generalize ats.getD p1 0 = fa at *
                clear d5 hto htom
                go_wp2_with fail
                refine wp_region_noPanic ?_
                refine wp_region_held_drew (S := (fun w' => Keeps w8 w')) (by kernel_rfl) (Touch.refl _ w8).drew (fun hHeld => ?_)
                refine' wpAnyH_take (i := 0) ?hi0_1 ?hs0_1 ?hf0_1 ?hr0_1 ?hQ0_1 ?hy0_1 (by assumption) ?rest0_1
                case hi0_1 => simp only [List.getElem?_toArray, List.getElem?_cons_zero] <;> rfl
                case hs0_1 => kernel_rfl
                case hf0_1 => kernel_rfl
                case hr0_1 => kernel_rfl
                case hQ0_1 => exact fun _ _ _ h => h
                case hy0_1 => exact Or.inl ⟨by rfl, fun w hSw => by have q0 := cell_keep l5' hSw; have q1 := cell_keep c28 hSw; have q2 := cell_keep v0 hSw; have q3 := cell_keep d6 hSw; go_simp <;> (try with_reducible rfl)⟩
                simp only [Act.put, List.setIfInBounds_toArray, List.set_cons_zero, List.set_cons_succ]
                refine' wpAnyH_take (i := 1) ?hi1_1 ?hs1_1 ?hf1_1 ?hr1_1 ?hQ1_1 ?hy1_1 (by assumption) ?rest1_1
                case hi1_1 => simp only [List.getElem?_toArray, List.getElem?_cons_succ, List.getElem?_cons_zero] <;> rfl
                case hs1_1 => kernel_rfl
                case hf1_1 => kernel_rfl
                case hr1_1 => kernel_rfl
                case hQ1_1 => exact fun _ _ _ h => h
                case hy1_1 => exact Or.inl ⟨by rfl, fun w hSw => by have q0 := cell_keep l5' hSw; have q1 := cell_keep c28 hSw; have q2 := cell_keep v0 hSw; have q3 := cell_keep d6 hSw; go_simp <;> (try with_reducible rfl)⟩
                simp only [Act.put, List.setIfInBounds_toArray, List.set_cons_zero, List.set_cons_succ]
                refine' wpAnyH_take (i := 2) ?hi2_1 ?hs2_1 ?hf2_1 ?hr2_1 ?hQ2_1 ?hy2_1 (by assumption) ?rest2_1
                case hi2_1 => simp only [List.getElem?_toArray, List.getElem?_cons_succ, List.getElem?_cons_zero] <;> rfl
                case hs2_1 => kernel_rfl
                case hf2_1 => kernel_rfl
                case hr2_1 => kernel_rfl
                case hQ2_1 => exact fun _ _ _ h => h
                case hy2_1 => exact Or.inl ⟨by rfl, fun w hSw => by have q0 := cell_keep l5' hSw; have q1 := cell_keep c28 hSw; have q2 := cell_keep v0 hSw; have q3 := cell_keep d6 hSw; go_simp <;> (try with_reducible rfl)⟩
                simp only [Act.put, List.setIfInBounds_toArray, List.set_cons_zero, List.set_cons_succ]
                refine' wpAnyH_take (i := 3) ?hi3_1 ?hs3_1 ?hf3_1 ?hr3_1 ?hQ3_1 ?hy3_1 (by assumption) ?rest3_1
                case hi3_1 => simp only [List.getElem?_toArray, List.getElem?_cons_succ, List.getElem?_cons_zero] <;> rfl
                case hs3_1 => kernel_rfl
                case hf3_1 => kernel_rfl
                case hr3_1 => kernel_rfl
                case hQ3_1 => exact fun _ _ _ h => h
                case hy3_1 => exact Or.inl ⟨by rfl, fun w hSw => by have q0 := cell_keep l5' hSw; have q1 := cell_keep c28 hSw; have q2 := cell_keep v0 hSw; have q3 := cell_keep d6 hSw; go_simp <;> (try with_reducible rfl)⟩
                simp only [Act.put, List.setIfInBounds_toArray, List.set_cons_zero, List.set_cons_succ]
                refine' wpAnyH_take (i := 4) ?hi4_1 ?hs4_1 ?hf4_1 ?hr4_1 ?hQ4_1 ?hy4_1 (by assumption) ?rest4_1
                case hi4_1 => simp only [List.getElem?_toArray, List.getElem?_cons_succ, List.getElem?_cons_zero] <;> rfl
                case hs4_1 => kernel_rfl
                case hf4_1 => kernel_rfl
                case hr4_1 => kernel_rfl
                case hQ4_1 => exact fun _ _ _ h => h
                case hy4_1 => exact Or.inl ⟨by rfl, fun w hSw => by have q0 := cell_keep l5' hSw; have q1 := cell_keep c28 hSw; have q2 := cell_keep v0 hSw; have q3 := cell_keep d6 hSw; go_simp <;> (try with_reducible rfl)⟩
                simp only [Act.put, List.setIfInBounds_toArray, List.set_cons_zero, List.set_cons_succ]
                refine' wpAnyH_take (i := 5) ?hi5_1 ?hs5_1 ?hf5_1 ?hr5_1 ?hQ5_1 ?hy5_1 (by assumption) ?rest5_1
                case hi5_1 => simp only [List.getElem?_toArray, List.getElem?_cons_succ, List.getElem?_cons_zero] <;> rfl
                case hs5_1 => kernel_rfl
                case hf5_1 => kernel_rfl
                case hr5_1 => kernel_rfl
                case hQ5_1 => exact fun _ _ _ h => h
                case hy5_1 => exact Or.inl ⟨by rfl, fun w hSw => by have q0 := cell_keep l5' hSw; have q1 := cell_keep c28 hSw; have q2 := cell_keep v0 hSw; have q3 := cell_keep d6 hSw; go_simp <;> (try with_reducible rfl)⟩
                simp only [Act.put, List.setIfInBounds_toArray, List.set_cons_zero, List.set_cons_succ]
                refine' wpAnyH_take (i := 6) ?hi6_1 ?hs6_1 ?hf6_1 ?hr6_1 ?hQ6_1 ?hy6_1 (by assumption) ?rest6_1
                case hi6_1 => simp only [List.getElem?_toArray, List.getElem?_cons_succ, List.getElem?_cons_zero] <;> rfl
                case hs6_1 => kernel_rfl
                case hf6_1 => kernel_rfl
                case hr6_1 => kernel_rfl
                case hQ6_1 => exact fun _ _ _ h => h
                case hy6_1 => exact Or.inl ⟨by rfl, fun w hSw => by have q0 := cell_keep l5' hSw; have q1 := cell_keep c28 hSw; have q2 := cell_keep v0 hSw; have q3 := cell_keep d6 hSw; go_simp <;> (try with_reducible rfl)⟩
                simp only [Act.put, List.setIfInBounds_toArray, List.set_cons_zero, List.set_cons_succ]
                refine' wpAnyH_take (i := 7) ?hi7_1 ?hs7_1 ?hf7_1 ?hr7_1 ?hQ7_1 ?hy7_1 (by assumption) ?rest7_1
                case hi7_1 => simp only [List.getElem?_toArray, List.getElem?_cons_succ, List.getElem?_cons_zero] <;> rfl
                case hs7_1 => kernel_rfl
                case hf7_1 => kernel_rfl
                case hr7_1 => kernel_rfl
                case hQ7_1 => exact fun _ _ _ h => h
                case hy7_1 => exact Or.inl ⟨by rfl, fun w hSw => by have q0 := cell_keep l5' hSw; have q1 := cell_keep c28 hSw; have q2 := cell_keep v0 hSw; have q3 := cell_keep d6 hSw; go_simp <;> (try with_reducible rfl)⟩
                simp only [Act.put, List.setIfInBounds_toArray, List.set_cons_zero, List.set_cons_succ]
                refine' wpAnyH_take (i := 8) ?hi8_1 ?hs8_1 ?hf8_1 ?hr8_1 ?hQ8_1 ?hy8_1 (by assumption) ?rest8_1
                case hi8_1 => simp only [List.getElem?_toArray, List.getElem?_cons_succ, List.getElem?_cons_zero] <;> rfl
                case hs8_1 => kernel_rfl
                case hf8_1 => kernel_rfl
                case hr8_1 => kernel_rfl
                case hQ8_1 => exact fun _ _ _ h => h
                case hy8_1 => exact Or.inl ⟨by rfl, fun w hSw => by have q0 := cell_keep l5' hSw; have q1 := cell_keep c28 hSw; have q2 := cell_keep v0 hSw; have q3 := cell_keep d6 hSw; go_simp <;> (try with_reducible rfl)⟩
                simp only [Act.put, List.setIfInBounds_toArray, List.set_cons_zero, List.set_cons_succ]
                refine' wpAnyH_take (i := 9) ?hi9_1 ?hs9_1 ?hf9_1 ?hr9_1 ?hQ9_1 ?hy9_1 (by assumption) ?rest9_1
                case hi9_1 => simp only [List.getElem?_toArray, List.getElem?_cons_succ, List.getElem?_cons_zero] <;> rfl
                case hs9_1 => kernel_rfl
                case hf9_1 => kernel_rfl
                case hr9_1 => kernel_rfl
                case hQ9_1 => exact fun _ _ _ h => h
                case hy9_1 => exact Or.inl ⟨by rfl, fun w hSw => by have q0 := cell_keep l5' hSw; have q1 := cell_keep c28 hSw; have q2 := cell_keep v0 hSw; have q3 := cell_keep d6 hSw; go_simp <;> (try with_reducible rfl)⟩
                simp only [Act.put, List.setIfInBounds_toArray, List.set_cons_zero, List.set_cons_succ]
                refine' wpAnyH_take (i := 10) ?hi10_1 ?hs10_1 ?hf10_1 ?hr10_1 ?hQ10_1 ?hy10_1 (by assumption) ?rest10_1
                case hi10_1 => simp only [List.getElem?_toArray, List.getElem?_cons_succ, List.getElem?_cons_zero] <;> rfl
                case hs10_1 => kernel_rfl
                case hf10_1 => kernel_rfl
                case hr10_1 => kernel_rfl
                case hQ10_1 => exact fun _ _ _ h => h
                case hy10_1 => exact Or.inl ⟨by rfl, fun w hSw => by have q0 := cell_keep l5' hSw; have q1 := cell_keep c28 hSw; have q2 := cell_keep v0 hSw; have q3 := cell_keep d6 hSw; go_simp <;> (try with_reducible rfl)⟩
                simp only [Act.put, List.setIfInBounds_toArray, List.set_cons_zero, List.set_cons_succ]
                refine' wpAnyH_take (i := 11) ?hi11_1 ?hs11_1 ?hf11_1 ?hr11_1 ?hQ11_1 ?hy11_1 (by assumption) ?rest11_1
                case hi11_1 => simp only [List.getElem?_toArray, List.getElem?_cons_succ, List.getElem?_cons_zero] <;> rfl
                case hs11_1 => kernel_rfl
                case hf11_1 => kernel_rfl
                case hr11_1 => kernel_rfl
                case hQ11_1 => exact fun _ _ _ h => h
                case hy11_1 => exact Or.inl ⟨by rfl, fun w hSw => by have q0 := cell_keep l5' hSw; have q1 := cell_keep c28 hSw; have q2 := cell_keep v0 hSw; have q3 := cell_keep d6 hSw; go_simp <;> (try with_reducible rfl)⟩
                simp only [Act.put, List.setIfInBounds_toArray, List.set_cons_zero, List.set_cons_succ]
                refine' wpAnyH_take (i := 12) ?hi12_1 ?hs12_1 ?hf12_1 ?hr12_1 ?hQ12_1 ?hy12_1 (by assumption) ?rest12_1
                case hi12_1 => simp only [List.getElem?_toArray, List.getElem?_cons_succ, List.getElem?_cons_zero] <;> rfl
                case hs12_1 => kernel_rfl
                case hf12_1 => kernel_rfl
                case hr12_1 => kernel_rfl
                case hQ12_1 => exact fun _ _ _ h => h
                case hy12_1 => exact Or.inl ⟨by rfl, fun w hSw => by have q0 := cell_keep l5' hSw; have q1 := cell_keep c28 hSw; have q2 := cell_keep v0 hSw; have q3 := cell_keep d6 hSw; go_simp <;> (try with_reducible rfl)⟩
                simp only [Act.put, List.setIfInBounds_toArray, List.set_cons_zero, List.set_cons_succ]
                refine' wpAnyH_take (i := 13) ?hi13_1 ?hs13_1 ?hf13_1 ?hr13_1 ?hQ13_1 ?hy13_1 (by assumption) ?rest13_1
                case hi13_1 => simp only [List.getElem?_toArray, List.getElem?_cons_succ, List.getElem?_cons_zero] <;> rfl
                case hs13_1 => kernel_rfl
                case hf13_1 => kernel_rfl
                case hr13_1 => kernel_rfl
                case hQ13_1 => exact fun _ _ _ h => h
                case hy13_1 => exact Or.inl ⟨by rfl, fun w hSw => by have q0 := cell_keep l5' hSw; have q1 := cell_keep c28 hSw; have q2 := cell_keep v0 hSw; have q3 := cell_keep d6 hSw; go_simp <;> (try with_reducible rfl)⟩
                simp only [Act.put, List.setIfInBounds_toArray, List.set_cons_zero, List.set_cons_succ]
                refine' wpAnyH_take (i := 14) ?hi14_1 ?hs14_1 ?hf14_1 ?hr14_1 ?hQ14_1 ?hy14_1 (by assumption) ?rest14_1
                case hi14_1 => simp only [List.getElem?_toArray, List.getElem?_cons_succ, List.getElem?_cons_zero] <;> rfl
                case hs14_1 => kernel_rfl
                case hf14_1 => kernel_rfl
                case hr14_1 => kernel_rfl
                case hQ14_1 => exact fun _ _ _ h => h
                case hy14_1 => exact Or.inl ⟨by rfl, fun w hSw => by have q0 := cell_keep l5' hSw; have q1 := cell_keep c28 hSw; have q2 := cell_keep v0 hSw; have q3 := cell_keep d6 hSw; go_simp <;> (try with_reducible rfl)⟩
                simp only [Act.put, List.setIfInBounds_toArray, List.set_cons_zero, List.set_cons_succ]
                refine wpAnyH_done (by kernel_rfl) ?_ _
                refine NoPanic.normal ?_
                go_upto_if 165 with fail
                go_cut [14] from 166 to 172 (fun s wx => s = .int .i64 to_ ∧ w8.drew = wx)
                case first =>
                  have hto := HTo.out
                  clear HTo HToM
                  by_cases hp0 : p2 = 0
                  · rw [if_pos hp0] at hto
                    subst hp0
                    go_wp2_with fail
                    go_meet
                    exact ⟨by rw [hto], rfl⟩
                  · rw [if_neg hp0] at hto
                    obtain ⟨p3, hp3⟩ : ∃ p3 : Nat, p2 - 1 = p3 := ⟨_, rfl⟩
                    rw [hp3] at hto
                    have hp20 : 0 < p2 := by omega
                    have hp2I : (0 : Int) < p2 := by omega
                    have gp3 : IntKind.i64.wrap ((p2 : Int) - 1) = p3 := by rw [IntWalk.i64_in _ ⟨by omega, by omega⟩]; omega
                    have hp3l : p3 < na := by omega
                    have hp3I : (p3 : Int) < na := by omega
                    obtain ⟨b7, o7, he7, d7⟩ := HRd8.out.one hp3l
                    simp only [Option.some.injEq, Addr.mk.injEq, and_true] at he7
                    obtain ⟨rfl, rfl⟩ := he7
                    have d8 : w8.cell? ⟨b5, o5 + p3, none⟩ = some (.int .i64 (ats.getD p3 0)) := d7
                    rw [← hto] at d8
                    clear d7 hto hp3
                    go_wp2_with fail
                    go_meet
                    exact ⟨rfl, rfl⟩
                case rest =>
                obtain ⟨rfl, rfl⟩ := hcut
                have hob : (objP (atT 500 g m C fa)).2 = 0 := by
                  obtain ⟨_, _, _, _, _, q3, q4, _⟩ := HL8.out.inv.in_ HCk.out hfm
                  rw [objP_obj q3 q4]; exact q3
                have HSh := Lib.hid (show ∀ w', Keeps w8 w' → Calls Tryz.prog 20 #[.agg #[.pointer (some ⟨ba, 0, none⟩), .pointer (some ⟨bt, 0, none⟩)], .int .i64 fa] w' fun e w2 => e = .returned (.tuple #[.int .i64 (objP (atT 500 g m C fa)).1.refs, .int .i64 (objP (atT 500 g m C fa)).1.data, .int .i64 0]) ∧ Keeps w' w2 from fun w' kk => by
                  have hh := oshape_any ba bw 500 g bt A m cap C w' (HL8.out.st.keep kk) fa
                  rw [hob] at hh
                  exact hh)
                have hrb := obj_ok HCk.out hob
                have HSR := Lib.hid (show ∀ w', Keeps w8 w' → ∀ q, 0 ≤ q → q < (objP (atT 500 g m C fa)).1.refs → Calls Tryz.prog 21 #[.agg #[.pointer (some ⟨ba, 0, none⟩), .pointer (some ⟨bt, 0, none⟩)], .int .i64 fa, .int .i64 q, .int .i64 to_] w' fun e w2 => e = .returned (.int .i64 0) ∧ St w2 ba bw 500 (putF g (refAt fa q).toNat to_) bt A m cap C ∧ Only bw w' w2 from fun w' kk q q0 q1 => setref_yes ba bw 500 g bt A m cap C w' (HL8.out.st.keep kk) fa q to_ (slE_zero.2 ⟨hob, q0, q1⟩))
                have HInv := Lib.hid (show ∀ q, 0 ≤ q → q < (objP (atT 500 g m C fa)).1.refs → LInv 500 m (putF g (refAt fa q).toNat to_) C L G ats ∧ ((∀ j, j < 3 → fullJ (atT 500 g m C) L G j) → ∀ j, j < 3 → fullJ (atT 500 (putF g (refAt fa q).toNat to_) m C) L G j) from fun q q0 q1 => HL8.out.inv.setref HCk.out hfm q0 q1 HToM.out (by
                  rcases HToM.out with h | h
                  · rw [h]; exact i64_small (by decide) (by decide)
                  · have := HL8.out.inv.len HCk.out h; exact i64_small (by omega) (by omega)))
                obtain ⟨_, hr0, hr1, _, _, _⟩ := hrb
                generalize (objP (atT 500 g m C fa)).1.refs = r at *
                generalize (objP (atT 500 g m C fa)).1.data = dd at *
                clear hob
                have kd : Keeps w8 w8.drew := (Touch.refl _ w8).drew
                go_wp2_with fail
                refine Calls.mono (HSh.out _ kd) ?_
                clear HSh
                rintro e w9 ⟨rfl, k9⟩
                have k89 : Keeps w8 w9 := Keeps.trans kd k9
                have hz9 := k89.size
                have l29 := cell_keep l2 k89
                have l39 := cell_keep l3 k89
                have c29 := cell_keep c28 k89
                have v19 := cell_keep v1 k89
                clear l2 l3 l5' c28 v0 v1 v2 d6 k9 kd
                by_cases hrp : 0 < r
                · have hr0p : ¬ (r = 0) := by omega
                  obtain ⟨q, hq⟩ : ∃ q : Int, y1.tmod r = q := ⟨_, rfl⟩
                  have hq01 : 0 ≤ q ∧ q < r := by
                    rw [Int.tmod_eq_emod_of_nonneg x1a] at hq
                    have a := Int.emod_nonneg y1 hr0p
                    have b := Int.emod_lt_of_pos y1 hrp
                    omega
                  obtain ⟨hq0, hq1⟩ := hq01
                  go_wp2_with fail
                  refine wp_region_noPanic ?_
                  refine wp_region_held_drew (S := (fun w' => Only bw w9 w')) (by kernel_rfl) (Only.refl _ w9).drew (fun hHeld => ?_)
                  refine' wpAnyH_take (i := 0) ?hi0_5 ?hs0_5 ?hf0_5 ?hr0_5 ?hQ0_5 ?hy0_5 (by assumption) ?rest0_5
                  case hi0_5 => simp only [List.getElem?_toArray, List.getElem?_cons_zero] <;> rfl
                  case hs0_5 => kernel_rfl
                  case hf0_5 => kernel_rfl
                  case hr0_5 => kernel_rfl
                  case hQ0_5 => exact fun _ _ _ h => h
                  case hy0_5 => exact Or.inl ⟨by rfl, fun w hSw => by have q0 := cell_only l29 hSw hxw; have q1 := cell_only l39 hSw hxw; have q2 := cell_only c29 hSw nWB; have q3 := cell_only v19 hSw nRB; go_simp <;> (try with_reducible rfl)⟩
                  simp only [Act.put, List.setIfInBounds_toArray, List.set_cons_zero, List.set_cons_succ]
                  refine' wpAnyH_take (i := 1) ?hi1_5 ?hs1_5 ?hf1_5 ?hr1_5 ?hQ1_5 ?hy1_5 (by assumption) ?rest1_5
                  case hi1_5 => simp only [List.getElem?_toArray, List.getElem?_cons_succ, List.getElem?_cons_zero] <;> rfl
                  case hs1_5 => kernel_rfl
                  case hf1_5 => kernel_rfl
                  case hr1_5 => kernel_rfl
                  case hQ1_5 => exact fun _ _ _ h => h
                  case hy1_5 => exact Or.inl ⟨by rfl, fun w hSw => by have q0 := cell_only l29 hSw hxw; have q1 := cell_only l39 hSw hxw; have q2 := cell_only c29 hSw nWB; have q3 := cell_only v19 hSw nRB; go_simp <;> (try with_reducible rfl)⟩
                  simp only [Act.put, List.setIfInBounds_toArray, List.set_cons_zero, List.set_cons_succ]
                  refine' wpAnyH_take (i := 2) ?hi2_5 ?hs2_5 ?hf2_5 ?hr2_5 ?hQ2_5 ?hy2_5 (by assumption) ?rest2_5
                  case hi2_5 => simp only [List.getElem?_toArray, List.getElem?_cons_succ, List.getElem?_cons_zero] <;> rfl
                  case hs2_5 => kernel_rfl
                  case hf2_5 => kernel_rfl
                  case hr2_5 => kernel_rfl
                  case hQ2_5 => exact fun _ _ _ h => h
                  case hy2_5 => exact Or.inl ⟨by rfl, fun w hSw => by have q0 := cell_only l29 hSw hxw; have q1 := cell_only l39 hSw hxw; have q2 := cell_only c29 hSw nWB; have q3 := cell_only v19 hSw nRB; go_simp <;> (try with_reducible rfl)⟩
                  simp only [Act.put, List.setIfInBounds_toArray, List.set_cons_zero, List.set_cons_succ]
                  refine' wpAnyH_take (i := 3) ?hi3_5 ?hs3_5 ?hf3_5 ?hr3_5 ?hQ3_5 ?hy3_5 (by assumption) ?rest3_5
                  case hi3_5 => simp only [List.getElem?_toArray, List.getElem?_cons_succ, List.getElem?_cons_zero] <;> rfl
                  case hs3_5 => kernel_rfl
                  case hf3_5 => kernel_rfl
                  case hr3_5 => kernel_rfl
                  case hQ3_5 => exact fun _ _ _ h => h
                  case hy3_5 => exact Or.inl ⟨by rfl, fun w hSw => by have q0 := cell_only l29 hSw hxw; have q1 := cell_only l39 hSw hxw; have q2 := cell_only c29 hSw nWB; have q3 := cell_only v19 hSw nRB; go_simp <;> (try with_reducible rfl)⟩
                  simp only [Act.put, List.setIfInBounds_toArray, List.set_cons_zero, List.set_cons_succ]
                  refine' wpAnyH_take (i := 4) ?hi4_5 ?hs4_5 ?hf4_5 ?hr4_5 ?hQ4_5 ?hy4_5 (by assumption) ?rest4_5
                  case hi4_5 => simp only [List.getElem?_toArray, List.getElem?_cons_succ, List.getElem?_cons_zero] <;> rfl
                  case hs4_5 => kernel_rfl
                  case hf4_5 => kernel_rfl
                  case hr4_5 => kernel_rfl
                  case hQ4_5 => exact fun _ _ _ h => h
                  case hy4_5 => exact Or.inl ⟨by rfl, fun w hSw => by have q0 := cell_only l29 hSw hxw; have q1 := cell_only l39 hSw hxw; have q2 := cell_only c29 hSw nWB; have q3 := cell_only v19 hSw nRB; go_simp <;> (try with_reducible rfl)⟩
                  simp only [Act.put, List.setIfInBounds_toArray, List.set_cons_zero, List.set_cons_succ]
                  refine' wpAnyH_take (i := 5) ?hi5_5 ?hs5_5 ?hf5_5 ?hr5_5 ?hQ5_5 ?hy5_5 (by assumption) ?rest5_5
                  case hi5_5 => simp only [List.getElem?_toArray, List.getElem?_cons_succ, List.getElem?_cons_zero] <;> rfl
                  case hs5_5 => kernel_rfl
                  case hf5_5 => kernel_rfl
                  case hr5_5 => kernel_rfl
                  case hQ5_5 => exact fun _ _ _ h => h
                  case hy5_5 => exact Or.inl ⟨by rfl, fun w hSw => by have q0 := cell_only l29 hSw hxw; have q1 := cell_only l39 hSw hxw; have q2 := cell_only c29 hSw nWB; have q3 := cell_only v19 hSw nRB; go_simp <;> (try with_reducible rfl)⟩
                  simp only [Act.put, List.setIfInBounds_toArray, List.set_cons_zero, List.set_cons_succ]
                  refine' wpAnyH_take (i := 6) ?hi6_5 ?hs6_5 ?hf6_5 ?hr6_5 ?hQ6_5 ?hy6_5 (by assumption) ?rest6_5
                  case hi6_5 => simp only [List.getElem?_toArray, List.getElem?_cons_succ, List.getElem?_cons_zero] <;> rfl
                  case hs6_5 => kernel_rfl
                  case hf6_5 => kernel_rfl
                  case hr6_5 => kernel_rfl
                  case hQ6_5 => exact fun _ _ _ h => h
                  case hy6_5 => exact Or.inl ⟨by rfl, fun w hSw => by have q0 := cell_only l29 hSw hxw; have q1 := cell_only l39 hSw hxw; have q2 := cell_only c29 hSw nWB; have q3 := cell_only v19 hSw nRB; go_simp <;> (try with_reducible rfl)⟩
                  simp only [Act.put, List.setIfInBounds_toArray, List.set_cons_zero, List.set_cons_succ]
                  refine' wpAnyH_take (i := 7) ?hi7_5 ?hs7_5 ?hf7_5 ?hr7_5 ?hQ7_5 ?hy7_5 (by assumption) ?rest7_5
                  case hi7_5 => simp only [List.getElem?_toArray, List.getElem?_cons_succ, List.getElem?_cons_zero] <;> rfl
                  case hs7_5 => kernel_rfl
                  case hf7_5 => kernel_rfl
                  case hr7_5 => kernel_rfl
                  case hQ7_5 => exact fun _ _ _ h => h
                  case hy7_5 => exact Or.inl ⟨by rfl, fun w hSw => by have q0 := cell_only l29 hSw hxw; have q1 := cell_only l39 hSw hxw; have q2 := cell_only c29 hSw nWB; have q3 := cell_only v19 hSw nRB; go_simp <;> (try with_reducible rfl)⟩
                  simp only [Act.put, List.setIfInBounds_toArray, List.set_cons_zero, List.set_cons_succ]
                  refine' wpAnyH_take (i := 8) ?hi8_5 ?hs8_5 ?hf8_5 ?hr8_5 ?hQ8_5 ?hy8_5 (by assumption) ?rest8_5
                  case hi8_5 => simp only [List.getElem?_toArray, List.getElem?_cons_succ, List.getElem?_cons_zero] <;> rfl
                  case hs8_5 => kernel_rfl
                  case hf8_5 => kernel_rfl
                  case hr8_5 => kernel_rfl
                  case hQ8_5 => exact fun _ _ _ h => h
                  case hy8_5 => exact Or.inl ⟨by rfl, fun w hSw => by have q0 := cell_only l29 hSw hxw; have q1 := cell_only l39 hSw hxw; have q2 := cell_only c29 hSw nWB; have q3 := cell_only v19 hSw nRB; go_simp <;> (try with_reducible rfl)⟩
                  simp only [Act.put, List.setIfInBounds_toArray, List.set_cons_zero, List.set_cons_succ]
                  refine' wpAnyH_take (i := 9) ?hi9_5 ?hs9_5 ?hf9_5 ?hr9_5 ?hQ9_5 ?hy9_5 (by assumption) ?rest9_5
                  case hi9_5 => simp only [List.getElem?_toArray, List.getElem?_cons_succ, List.getElem?_cons_zero] <;> rfl
                  case hs9_5 => kernel_rfl
                  case hf9_5 => kernel_rfl
                  case hr9_5 => kernel_rfl
                  case hQ9_5 => exact fun _ _ _ h => h
                  case hy9_5 => exact Or.inl ⟨by rfl, fun w hSw => by have q0 := cell_only l29 hSw hxw; have q1 := cell_only l39 hSw hxw; have q2 := cell_only c29 hSw nWB; have q3 := cell_only v19 hSw nRB; go_simp <;> (try with_reducible rfl)⟩
                  simp only [Act.put, List.setIfInBounds_toArray, List.set_cons_zero, List.set_cons_succ]
                  refine' wpAnyH_take (i := 10) ?hi10_5 ?hs10_5 ?hf10_5 ?hr10_5 ?hQ10_5 ?hy10_5 (by assumption) ?rest10_5
                  case hi10_5 => simp only [List.getElem?_toArray, List.getElem?_cons_succ, List.getElem?_cons_zero] <;> rfl
                  case hs10_5 => kernel_rfl
                  case hf10_5 => kernel_rfl
                  case hr10_5 => kernel_rfl
                  case hQ10_5 => exact fun _ _ _ h => h
                  case hy10_5 => exact Or.inl ⟨by rfl, fun w hSw => by have q0 := cell_only l29 hSw hxw; have q1 := cell_only l39 hSw hxw; have q2 := cell_only c29 hSw nWB; have q3 := cell_only v19 hSw nRB; go_simp <;> (try with_reducible rfl)⟩
                  simp only [Act.put, List.setIfInBounds_toArray, List.set_cons_zero, List.set_cons_succ]
                  refine' wpAnyH_take (i := 11) ?hi11_5 ?hs11_5 ?hf11_5 ?hr11_5 ?hQ11_5 ?hy11_5 (by assumption) ?rest11_5
                  case hi11_5 => simp only [List.getElem?_toArray, List.getElem?_cons_succ, List.getElem?_cons_zero] <;> rfl
                  case hs11_5 => kernel_rfl
                  case hf11_5 => kernel_rfl
                  case hr11_5 => kernel_rfl
                  case hQ11_5 => exact fun _ _ _ h => h
                  case hy11_5 => exact Or.inl ⟨by rfl, fun w hSw => by have q0 := cell_only l29 hSw hxw; have q1 := cell_only l39 hSw hxw; have q2 := cell_only c29 hSw nWB; have q3 := cell_only v19 hSw nRB; go_simp <;> (try with_reducible rfl)⟩
                  simp only [Act.put, List.setIfInBounds_toArray, List.set_cons_zero, List.set_cons_succ]
                  refine' wpAnyH_take (i := 12) ?hi12_5 ?hs12_5 ?hf12_5 ?hr12_5 ?hQ12_5 ?hy12_5 (by assumption) ?rest12_5
                  case hi12_5 => simp only [List.getElem?_toArray, List.getElem?_cons_succ, List.getElem?_cons_zero] <;> rfl
                  case hs12_5 => kernel_rfl
                  case hf12_5 => kernel_rfl
                  case hr12_5 => kernel_rfl
                  case hQ12_5 => exact fun _ _ _ h => h
                  case hy12_5 => exact Or.inl ⟨by rfl, fun w hSw => by have q0 := cell_only l29 hSw hxw; have q1 := cell_only l39 hSw hxw; have q2 := cell_only c29 hSw nWB; have q3 := cell_only v19 hSw nRB; go_simp <;> (try with_reducible rfl)⟩
                  simp only [Act.put, List.setIfInBounds_toArray, List.set_cons_zero, List.set_cons_succ]
                  refine wpAnyH_ready (rs := [13]) (by kernel_rfl) (by simp) ?_
                  refine AllReadyH.cons rfl (fun K hK => ?_) AllReadyH.nil
                  go_simp
                  with_reducible refine Calls.mono (HSR.out _ (Keeps.trans k89 (Touch.drew (Touch.refl (fun _ => False) w9))) q hq0 hq1) ?_
                  rintro e w10 ⟨rfl, hS10, o10⟩
                  go_wp2_with fail
                  refine hK.out _ _ (hHeld.trans_ o10) (fun hHeld => ?_)
                  clear hK K
                  refine wpAnyH_done (by kernel_rfl) ?_ _
                  refine NoPanic.normal ?_
                  go_wp2_with fail
                  have o10 : Only bw w8 w10 := Touch.trans (Touch.only k89) hHeld (fun x hx _ => hx)
                  obtain ⟨hi1, hi2⟩ := HInv.out q hq0 hq1
                  have HIv := Lib.hid hi1
                  have HIf := Lib.hid hi2
                  clear hi1 hi2
                  go_roundw
                  case rel => exact ⟨j2 + 1, _, by omega, by go_num, ⟨hS10, BL.touch HL8.out.blk o10 hxw, HL8.out.row.at_touch o10 (show ¬ gs = bw by omega) o10.size, HL8.out.at_.touch o10 (fun kk e h => by have := (HL8.out.at_.lt kk e).1; omega), HIv.out⟩, fun h => HIf.out (HFu8.out h), Only.trans_ o8 o10⟩
                  case measure => simp [intOf]; omega
                · have hr0 : r = 0 := by omega
                  subst hr0
                  go_wp2_with fail
                  go_roundw
                  case rel => exact ⟨j2 + 1, g, by omega, by go_num, ⟨HL8.out.st.keep k89, BL.keep HL8.out.blk k89, HL8.out.row.at_touch k89 (fun h => h) k89.size, HL8.out.at_.touch k89 (fun _ _ h => h), HL8.out.inv⟩, HFu8.out, Touch.keep o8 k89⟩
                  case measure => simp [intOf]; omega
            · obtain rfl : j2 = nr := by omega
              go_wp2_with fail
              go_meet
              exact ⟨g, HL8.out, HFu8.out, o8⟩
        case rest =>
        obtain ⟨w8, rfl⟩ : ∃ w8 : World, w8 = wc := ⟨_, rfl⟩
        obtain ⟨f8, hLS8, hfu8, o8⟩ := hcut
        have hsl0 : stl.length ≤ 60 := by omega
        have z8 := o8.size
        have K8 : Keeps w w8 := K.new o8 (by omega)
        have hst8 : ∀ kk, u9.ownBlock = some kk → w6.heap.size ≤ kk ∧ kk < wo.heap.size := HSt.out.lt
        have HSt8 := Lib.hid (HSt.out.touch o8 (fun kk e h => by have := (hst8 kk e).1; omega))
        have HBW8 := Lib.hid (HBW.out.touch o8 (show ¬ w.heap.size = bw by omega))
        have HBR8 := Lib.hid (HBR.out.touch o8 (show ¬ w.heap.size + 1 = bw by omega))
        have HFu8 := Lib.hid (show (∀ i, i < j → (T i).cl % ((m : Int) + 1) ≠ 0) → ∀ j, j < 3 → fullJ (atT 500 f8 m C) L G j from fun hh => hfu8 (HFull.out hh))
        have HL8 := Lib.hid hLS8
        have B8 := hLS8.blk
        have c3 := HBW8.out.c 3 _ rfl
        have HRd8 := Lib.hid (HRdA.out.keepS o8 (fun b off e h => by have := (HLoA.out b off e).1; omega))
        have HLo8 := Lib.hid (show ∀ b off, ad = some ⟨b, off, none⟩ → w6.heap.size ≤ b ∧ b < w8.heap.size from fun b off e => by have := HLoA.out b off e; omega)
        have hn1p : ¬ ((na : Int) + 1 = 0) := by omega
        have gn1 : IntKind.i64.wrap ((na : Int) + 1) = (na : Int) + 1 := IntWalk.i64_in _ ⟨by omega, by omega⟩
        clear hLS8 hfu8 HSt HBW HBR HFull HFull0 HRdA HLoA HLS HAt l5 c2 hst8 hls K
        go_wp2_with fail
        go_loopw [200] (fun i wr => ∃ (j3 : Nat) (rv : Value) (rl : List Int), j3 ≤ nz ∧ i = .int .i64 j3 ∧ LBlk wr xb ba bt gs scp (.slice ad na cpa) (.slice none 0 0) rv Ac m cc ∧ OwnInts wr w8.heap.size rv rl ∧ rl.length = j3 ∧ (∀ x, x ∈ rl → x = 0 ∨ x ∈ ats) ∧ Only xb w8 wr) (fun i _ => nz - (intOf i).toNat)
        case atStart => exact ⟨0, .slice none 0 0, [], by omega, rfl, B8, OwnInts.nil_ _ _, rfl, fun x hx => (by cases hx), Only.refl _ _⟩
        case round =>
          clear B8 c3
          obtain ⟨w9, rfl⟩ : ∃ w9 : World, w9 = wr := ⟨_, rfl⟩
          obtain ⟨j3, rv, rl, hj3, rfl, hB9, hown, hrl, hrm, o9⟩ := hrel
          have z9 := o9.size
          have hrl20 : rl.length ≤ 20 := by omega
          have HRl := Lib.hid hrl
          have HRm := Lib.hid hrm
          have HOwn := Lib.hid hown
          have HB9 := Lib.hid hB9
          have hlo := hown.lt
          clear hrl hrm
          obtain ⟨ar, cr, hv⟩ := hown.form
          subst hv
          have c7 := BL.c hB9 7 _ rfl
          have c5 := BL.c hB9 5 _ rfl
          have f7 := BL.fz hB9 7
          clear hown hB9
          by_cases hlt3 : j3 < nz
          · have K9 : Keeps w w9 := K8.new o9 (by omega)
            obtain ⟨rb, ro, hre, d0⟩ := (HA.out.roots.keep K9).one hlt3
            have d1 : w9.cell? ⟨rb, ro + j3, none⟩ = some (.int .u8 (Z j3)) := d0
            subst hre
            have c3 := (HBW8.out.touch o9 (show ¬ w.heap.size = xb from nWX)).c 3 _ rfl
            obtain ⟨y0a, y0b⟩ := HA.out.zok j3 hlt3
            generalize Z j3 = y at *
            have gy : IntKind.i64.wrap y = y := IntWalk.i64_in _ ⟨by omega, by omega⟩
            obtain ⟨p2, hp2⟩ : ∃ p : Nat, y.tmod ((na : Int) + 1) = p := ⟨(y.tmod (na + 1)).toNat, by rw [Int.tmod_eq_emod_of_nonneg y0a]; have := Int.emod_nonneg y hn1p; omega⟩
            have hp2l : p2 ≤ na := by have := Int.emod_lt_of_pos y (show (0 : Int) < (na : Int) + 1 by omega); rw [Int.tmod_eq_emod_of_nonneg y0a] at hp2; omega
            obtain ⟨to_, hto⟩ : ∃ to_ : Int, to_ = if p2 = 0 then 0 else ats.getD (p2 - 1) 0 := ⟨_, rfl⟩
            have HToM := Lib.hid (show to_ = 0 ∨ to_ ∈ ats from by
              rw [hto]; split
              · exact .inl rfl
              · exact .inr (HMem.out _ (by omega)))
            have HTo := Lib.hid hto
            clear d0 hto
            go_upto_if 213 with fail
            go_cut [20] from 214 to 220 (fun s wx => s = .int .i64 to_ ∧ w9 = wx)
            case first =>
              have hto := HTo.out
              clear HTo HToM
              by_cases hp0 : p2 = 0
              · rw [if_pos hp0] at hto
                subst hp0
                go_wp2_with fail
                go_meet
                exact ⟨by rw [hto], rfl⟩
              · rw [if_neg hp0] at hto
                obtain ⟨p3, hp3⟩ : ∃ p3 : Nat, p2 - 1 = p3 := ⟨_, rfl⟩
                rw [hp3] at hto
                have hp20 : 0 < p2 := by omega
                have hp2I : (0 : Int) < p2 := by omega
                have gp3 : IntKind.i64.wrap ((p2 : Int) - 1) = p3 := by rw [IntWalk.i64_in _ ⟨by omega, by omega⟩]; omega
                have hp3l : p3 < na := by omega
                have hp3I : (p3 : Int) < na := by omega
                obtain ⟨b7, o7, he7, d7⟩ := (HRd8.out.keepS o9 (fun b off e h => by have := (HLo8.out b off e).1; omega)).one hp3l
                subst he7
                have d8 : w9.cell? ⟨b7, o7 + p3, none⟩ = some (.int .i64 (ats.getD p3 0)) := d7
                rw [← hto] at d8
                clear d7 hto hp3
                go_wp2_with fail
                go_meet
                exact ⟨rfl, rfl⟩
            case rest =>
            obtain ⟨rfl, rfl⟩ := hcut
            clear c3 d1 c5 f7 HTo
            go_wp2_with (at_builtin; refine app_int ?_ (.tmp 221) (.tmp 223) ?_ w8.heap.size (.slice ar rl.length cr) rl (HOwn.out.alloc _) ?_ w9.heap.size to_ ?_ (cell_new _ _ _ _ rfl) (by omega) (by simp; omega) ?_; rfl; rfl; rfl; rfl; intro v' w10 hown' hgr hbl; obtain ⟨ae, ce, hv9⟩ := hown'.form; simp only [List.length_append, List.length_singleton] at hv9; subst hv9; have B10 := BL.grown (BL.alloc HB9.out (.cells #[.int .i64 to_] 3)) hgr (fun e => by have := (hlo _ e).1; omega); have c7' := B10.c 7 _ rfl; have f7' := B10.fz 7; have o10 := Only.grown (Only.alloc_ o9 (.cells #[.int .i64 to_] 3)) hgr (fun k e => (hlo k e).1); have HO10 := Lib.hid hown'; have HB10 := Lib.hid B10; clear B10 hgr hbl hown')
            go_roundw
            case rel => exact ⟨j3 + 1, _, rl ++ [to_], by omega, by go_num, BL.set HB10.out 7 _, HO10.out.touch (Touch.set (Only.refl xb w10) 7 _) (fun kk e h => by have := (HO10.out.lt kk e).1; omega), by have := HRl.out; simp; omega, fun x hx => by
              rcases List.mem_append.1 hx with hx | hx
              · exact HRm.out x hx
              · simp at hx; subst hx; exact HToM.out, Touch.set o10 7 _⟩
            case measure => simp [intOf]; omega
          · obtain rfl : j3 = nz := by omega
            have HSt9 := Lib.hid (HSt8.out.touch o9 (fun kk e h => by have := (HSt8.out.lt kk e).1; omega))
            have hC3 : ∀ b off, Ac = some ⟨b, off, none⟩ → b < w.heap.size := fun b off e => by
              obtain ⟨b', o', e', h', _⟩ := HA.out.cls (by omega)
              rw [e] at e'; simp only [Option.some.injEq, Addr.mk.injEq] at e'; omega
            have HC3 := Lib.hid hC3
            have c0 := BL.c HB9.out 0 _ rfl
            have c8 := BL.c HB9.out 8 _ rfl
            have K9 : Keeps w w9 := K8.new o9 (by omega)
            have HS := Lib.hid (show ∀ w', Keeps w9 w' → Calls Tryz.prog 6 #[.pointer (some ⟨xb, 0, none⟩)] w' (StoreOut f8 Ac m cc C w') from fun w' kk => lstore_any ba bw f8 w' ((HL8.out.st.ar.touch o9 (show ¬ ba = xb by omega) (show ¬ bw = xb by omega)).keep kk) xb C Ac m cc (cell_keep c0 kk) (cell_keep c8 kk) ((HA.out.cls.keep K9).keep kk) (by omega) HCk.out)
            have HRe := Lib.hid (show ∀ w' pa wad wcp, RSt w' pa 500 f8 wad wcp Ac m C → ∀ ad fl fc fr, Rd w' ad fl (intF .i64 fr) → fl ≤ 1000 → (∀ j, j < fl → fr j = 0 ∨ fr j ∈ ats) → Calls Tryz.prog 23 #[rstV pa Ac m cc, .slice ad fl fc] w' (ReachOut 500 f8 m C ats (fun x => ∃ j, j < fl ∧ fr j = x) w') from fun w' pa wad wcp hr ad fl fc fr h1 h2 h3 => reach_any pa 500 f8 wad wcp Ac m cc C w' hr ats ⟨fun a ha => by
              obtain ⟨_, _, _, _, _, q3, q4, _⟩ := HL8.out.inv.in_ HCk.out ha
              rw [objP_obj q3 q4]; exact q3, HL8.out.inv.ref, by have := HNa.out; omega⟩ ad fl fc fr h1 h2 h3)
            have hC9 := HC3.out
            have hfr : ∀ x, x ∈ rl ++ stl → x = 0 ∨ x ∈ ats := fun x hx => by
              rcases List.mem_append.1 hx with hx | hx
              · exact HRm.out x hx
              · exact .inr (HSub.out x hx)
            have HFr := Lib.hid hfr
            have hsl60 : stl.length ≤ 60 := hsl0
            clear c0 c8 c5 hC3 hC9 hfr
            go_upto_region 38 with fail
            go_cut [] from 227 to 237 (fun wx => ∃ sa sn sc stay, BL wx xb 36 [.pointer (some ⟨ba, 0, none⟩), .pointer (some ⟨bt, 0, none⟩), .pointer (some ⟨ba, 0, none⟩), .pointer (some ⟨bt, 0, none⟩), .slice (some ⟨gs, 0, none⟩) 3 scp, .slice ad na cpa, .slice sa sn sc, .slice ar rl.length cr, .slice Ac m cc] ∧ OwnInts wx w9.heap.size (.slice sa sn sc) stay ∧ StayIs 500 m f8 C ats stay rl ∧ stay.length ≤ 60 ∧ Only xb w9 wx)
            case first =>
              refine wp_region_noPanic ?_
              refine wp_region_held_drew (S := (fun w' => Only xb w9 w' ∧ w'.cell? ⟨xb, 7, none⟩ = some (.slice ar rl.length cr))) (by kernel_rfl) ⟨(Only.refl xb w9).drew, c7⟩ (fun hHeld => ?_)
              refine' wpAnyH_take (i := 2) ?hi2_2 ?hs2_2 ?hf2_2 ?hr2_2 ?hQ2_2 ?hy2_2 (by assumption) ?rest2_2
              case hi2_2 => simp only [List.getElem?_toArray, List.getElem?_cons_succ, List.getElem?_cons_zero] <;> rfl
              case hs2_2 => kernel_rfl
              case hf2_2 => kernel_rfl
              case hr2_2 => kernel_rfl
              case hQ2_2 => exact fun _ _ _ h => h
              case hy2_2 => exact Or.inl ⟨by rfl, fun w hSw => by go_simp <;> (try with_reducible rfl)⟩
              simp only [Act.put, List.setIfInBounds_toArray, List.set_cons_zero, List.set_cons_succ]
              refine' wpAnyH_take (i := 3) ?hi3_2 ?hs3_2 ?hf3_2 ?hr3_2 ?hQ3_2 ?hy3_2 (by assumption) ?rest3_2
              case hi3_2 => simp only [List.getElem?_toArray, List.getElem?_cons_succ, List.getElem?_cons_zero] <;> rfl
              case hs3_2 => kernel_rfl
              case hf3_2 => kernel_rfl
              case hr3_2 => kernel_rfl
              case hQ3_2 => exact fun _ _ _ h => h
              case hy3_2 => exact Or.inl ⟨by rfl, fun w hSw => by have q0 := hSw.2; go_simp <;> (try with_reducible rfl)⟩
              simp only [Act.put, List.setIfInBounds_toArray, List.set_cons_zero, List.set_cons_succ]
              refine' wpAnyH_take (i := 5) ?hi5_2 ?hs5_2 ?hf5_2 ?hr5_2 ?hQ5_2 ?hy5_2 (by assumption) ?rest5_2
              case hi5_2 => simp only [List.getElem?_toArray, List.getElem?_cons_succ, List.getElem?_cons_zero] <;> rfl
              case hs5_2 => kernel_rfl
              case hf5_2 => kernel_rfl
              case hr5_2 => kernel_rfl
              case hQ5_2 => exact fun _ _ _ h => h
              case hy5_2 => exact Or.inl ⟨by rfl, fun w hSw => by go_simp <;> (try with_reducible rfl)⟩
              simp only [Act.put, List.setIfInBounds_toArray, List.set_cons_zero, List.set_cons_succ]
              refine wpAnyH_ready (rs := [0, 1]) (by kernel_rfl) (by simp) ?_
              refine (AllReadyH.cons rfl (fun K hK => ?_) (AllReadyH.cons rfl (fun K hK => ?_) AllReadyH.nil))
              · go_simp
                have k0 : Keeps w9 w9.drew := (Touch.refl (fun _ => False) w9).drew
                with_reducible refine Calls.mono (HS.out _ k0) ?_
                rintro e w12 ⟨pa, wad, wcp, rfl, hR0, ⟨hPb, hWb0⟩, k12a⟩
                go_wp2_with fail
                have k12b : Keeps w9 w12 := Keeps.trans k0 k12a
                refine hK.out _ _ ⟨Touch.only k12b, cell_keep c7 k12b⟩ (fun hHeld => ?_)
                clear hK K
                refine wpAnyH_ready (rs := [1]) (by kernel_rfl) (by simp) ?_
                refine (AllReadyH.cons rfl (fun K hK => ?_) AllReadyH.nil)
                go_simp
                have k12 : Keeps w9 (w12.alloc (.cells #[] 3)) := Touch.alloc k12b _
                refine hK.out _ _ ⟨Touch.only k12, cell_keep c7 k12⟩ (fun hHeld => ?_)
                clear hK K
                have hE := own_empty w12 w9.heap.size w12.heap.size rfl k12b.size
                have hR := RSt.keep hR0 ((Touch.refl (fun _ => False) w12).alloc (.cells #[] 3))
                have hEne : ∀ kk, (Value.slice (some ⟨w12.heap.size, 0, none⟩) 0 0).ownBlock = some kk → kk = w12.heap.size ∧ kk ≠ pa := fun kk e => by have e2 : w12.heap.size = kk := Option.some.inj e; omega
                have hWb : ∀ b off, wad = some ⟨b, off, none⟩ → b ≠ w12.heap.size := fun b off h => by have := hWb0 b off h; omega
                have hPl : pa < (w12.alloc (.cells #[] 3)).heap.size ∧ ∀ b off, wad = some ⟨b, off, none⟩ → b < (w12.alloc (.cells #[] 3)).heap.size := ⟨by simp; omega, fun b off h => by have := hWb0 b off h; simp; omega⟩
                clear hR0
                refine wpAnyH_ready (rs := [4]) (by kernel_rfl) (by simp) ?_
                refine (AllReadyH.cons rfl (fun K hK => ?_) AllReadyH.nil)
                rw [if_pos (show Region.wanted _ _ = true from rfl)]
                refine wp_app_own (some 231) rfl (.tmp 228) (.tmp 230) rfl w9.heap.size (.slice (some ⟨w12.heap.size, 0, none⟩) 0 0) [] hE rfl w8.heap.size (.slice ar rl.length cr) rl (HOwn.out.keep k12) rfl (by simp; omega) k12.size ?_
                intro v13 w13 hown13 hgr13 hbl13
                have k13 : Keeps w9 w13 := Keeps.grown k12 hgr13 (fun k e => by have := (hE.lt k e).1; omega)
                have hR13 := RSt.grown hR hgr13 (fun e => by have := hEne _ e; omega) (fun b off h e => by have := hEne _ e; have := hWb b off h; omega) (fun b off h e => by have := (hE.lt _ e).1; have := HC3.out b off h; omega)
                have hbb : ∀ kk, v13.ownBlock = some kk → kk ≠ pa ∧ ∀ b off, wad = some ⟨b, off, none⟩ → kk ≠ b := fun kk e => by
                  rcases hbl13 with h | h
                  · rw [h] at e; exact ⟨by have := hEne _ e; omega, fun b off h2 => by have := hEne _ e; have := hWb b off h2; omega⟩
                  · rw [h] at e; simp only [Option.some.injEq] at e; subst e; exact ⟨by have := hPl.1; omega, fun b off h2 => by have := hPl.2 b off h2; omega⟩
                have h13 := hown13.lt
                have l13 : ([] ++ rl : List Int) = rl := rfl
                rw [l13] at hown13
                clear hgr13 hbl13 hE hEne hWb hPl hWb0 hPb l13
                refine hK.out _ _ ⟨Touch.only k13, cell_keep c7 k13⟩ (fun hHeld => ?_)
                clear hK K
                simp only [Act.put, List.setIfInBounds_toArray, List.set_cons_zero, List.set_cons_succ]
                refine wpAnyH_ready (rs := [6]) (by kernel_rfl) (by simp) ?_
                refine (AllReadyH.cons rfl (fun K hK => ?_) AllReadyH.nil)
                rw [if_pos (show Region.wanted _ _ = true from rfl)]
                refine wp_app_own (some 233) rfl (.tmp 231) (.tmp 232) rfl w9.heap.size v13 rl hown13 rfl w6.heap.size u9 stl (HSt9.out.keep k13) rfl (by omega) k13.size ?_
                intro v14 w14 hown14 hgr14 hbl14
                have k14 : Keeps w9 w14 := Keeps.grown k13 hgr14 (fun k e => (h13 k e).1)
                have hR14 := RSt.grown hR13 hgr14 (fun e => (hbb _ e).1 rfl) (fun b off h e => (hbb _ e).2 b off h rfl) (fun b off h e => by have := (h13 _ e).1; have := HC3.out b off h; omega)
                clear hgr14 hbl14 hbb h13 hown13 hR13 hR
                refine hK.out _ _ ⟨Touch.only k14, cell_keep c7 k14⟩ (fun hHeld => ?_)
                clear hK K
                simp only [Act.put, List.setIfInBounds_toArray, List.set_cons_zero, List.set_cons_succ]
                obtain ⟨fa, fc, hfv, _, hfrd, _⟩ := hown14.cap
                have hfl : (rl ++ stl).length ≤ 1000 ∧ (∀ j, j < (rl ++ stl).length → (rl ++ stl).getD j 0 = 0 ∨ (rl ++ stl).getD j 0 ∈ ats) ∧ ∀ x, x ∈ rl ++ stl → ∃ j, j < (rl ++ stl).length ∧ (rl ++ stl).getD j 0 = x := ⟨by simp; omega, fun j hj => HFr.out _ (by rw [List.getD_eq_getElem?_getD, List.getElem?_eq_getElem hj]; exact List.getElem_mem _), fun x hx => by obtain ⟨i, hi, e⟩ := List.getElem_of_mem hx; exact ⟨i, hi, by rw [List.getD_eq_getElem?_getD, List.getElem?_eq_getElem hi]; exact e⟩⟩
                have HFl := Lib.hid hfl
                clear hfl hown14
                generalize (rl ++ stl).length = fn at *
                obtain ⟨frf, hfrf⟩ : ∃ frf : Nat → Int, (fun j => (rl ++ stl).getD j 0) = frf := ⟨_, rfl⟩
                have HFl2 := Lib.hid (show fn ≤ 1000 ∧ (∀ j, j < fn → frf j = 0 ∨ frf j ∈ ats) ∧ ∀ x, x ∈ rl ++ stl → ∃ j, j < fn ∧ frf j = x from by rw [← hfrf]; exact HFl.out)
                rw [hfrf] at hfrd
                clear hfrf HFl
                subst hfv
                refine wpAnyH_ready (rs := [7]) (by kernel_rfl) (by simp) ?_
                refine (AllReadyH.cons rfl (fun K hK => ?_) AllReadyH.nil)
                rw [if_pos (show Region.wanted _ _ = true from rfl)]
                go_simp
                with_reducible refine Calls.mono (HRe.out w14 pa wad wcp hR14 fa fn fc frf hfrd HFl2.out.1 HFl2.out.2.1) ?_
                rintro e w15 ⟨v15, out, rfl, hown15, hRI, hRt, hRc, k15⟩
                go_wp2_with fail
                have k15' := Keeps.trans k14 k15
                refine hK.out _ _ ⟨Touch.only k15', cell_keep c7 k15'⟩ (fun hHeld => ?_)
                clear hK K
                obtain ⟨oa, oc, hov, hoc, hord, _⟩ := hown15.cap
                have hon : oa = none → out.length = 0 ∧ oc = 0 := fun e => by
                  subst e
                  rcases hown15.cases_ with ⟨h, h2⟩ | ⟨g, cap, h, _⟩
                  · rw [hov] at h; simp only [Value.slice.injEq, true_and] at h; exact h
                  · rw [hov] at h; cases h
                subst hov
                have hol : out.length ≤ 60 := by have := nodup_len out ats hRI.nd (fun x hx => (hRI.inn x hx).1); have := HNa.out; omega
                have HSo := Lib.hid (sort_any oa out.length oc _ w15 hord (by omega) hon)
                rw [getD_range] at HSo
                clear hon hoc hown15 hord
                have hon2 := hol
                generalize hong : out.length = on at *
                have HOng := Lib.hid hong
                clear hong
                refine wpAnyH_ready (rs := [8]) (by kernel_rfl) (by simp) ?_
                refine (AllReadyH.cons rfl (fun K hK => ?_) AllReadyH.nil)
                rw [if_pos (show Region.wanted _ _ = true from rfl)]
                go_simp
                with_reducible refine Calls.mono HSo.out ?_
                rintro e w16 ⟨v16, stay, rfl, hown16, hris, hperm, k16⟩
                go_wp2_with fail
                have k16' := Keeps.trans k15' k16
                refine hK.out _ _ ⟨Touch.only k16', cell_keep c7 k16'⟩ (fun hHeld => ?_)
                clear hK K
                obtain ⟨sa, sc, hsv⟩ := hown16.form
                subst hsv
                have B16 := BL.keep HB9.out k16'
                have c16 := B16.c 6 _ rfl
                have f16 := B16.fz 6
                have hs16 : w9.heap.size ≤ w15.heap.size := k15'.size
                refine' wpAnyH_take (i := 9) ?hi9_3 ?hs9_3 ?hf9_3 ?hr9_3 ?hQ9_3 ?hy9_3 (by assumption) ?rest9_3
                case hi9_3 => simp only [List.getElem?_toArray, List.getElem?_cons_succ, List.getElem?_cons_zero] <;> rfl
                case hs9_3 => kernel_rfl
                case hf9_3 => kernel_rfl
                case hr9_3 => kernel_rfl
                case hQ9_3 => exact fun _ _ _ h => h
                case hy9_3 => exact Or.inl ⟨by rfl, fun w hSw => by go_simp <;> (try with_reducible rfl)⟩
                simp only [Act.put, List.setIfInBounds_toArray, List.set_cons_zero, List.set_cons_succ]
                refine wpAnyH_ready (rs := [10]) (by kernel_rfl) (by simp) ?_
                refine (AllReadyH.cons rfl (fun K hK => ?_) AllReadyH.nil)
                go_simp
                refine hK.out _ _ ⟨Touch.set (Touch.only k16') 6 _, (BL.set B16 6 _).c 7 _ rfl⟩ (fun hHeld => ?_)
                clear hK K
                refine wpAnyH_done (by kernel_rfl) ?_ _
                refine NoPanic.normal ?_
                go_wp2_with fail
                go_meet
                refine ⟨sa, stay.length, sc, stay, BL.set B16 6 _, (hown16.mono hs16).touch (Touch.set (Only.refl xb w16) 6 _) (fun kk e h => by have := (hown16.lt kk e).1; omega), ⟨rising_strict hris (hperm.symm.nodup hRI.nd), fun x hx => (hRI.inn x (hperm.mem_iff.1 hx)).1, fun x hx => ?_, fun a ha x hx => ?_⟩, by have := hperm.length_eq; have := HOng.out; omega, hHeld.1⟩
                · by_cases h0 : x = 0
                  · exact .inl h0
                  · exact .inr (hperm.mem_iff.2 (hRt x (HFl2.out.2.2 x (List.mem_append_left stl hx)) h0))
                · by_cases h0 : x = 0
                  · exact .inl h0
                  · exact .inr (hperm.mem_iff.2 (hRc a (hperm.mem_iff.1 ha) x hx h0))
              · go_simp
                have k0 : Keeps w9 w9.drew := (Touch.refl (fun _ => False) w9).drew
                have k12a : Keeps w9 ((w9.alloc (.cells #[] 3)).drew) := ((Touch.refl (fun _ => False) w9).alloc _).drew
                refine hK.out _ _ ⟨Touch.only k12a, cell_keep c7 k12a⟩ (fun hHeld => ?_)
                clear hK K
                refine wpAnyH_ready (rs := [0]) (by kernel_rfl) (by simp) ?_
                refine (AllReadyH.cons rfl (fun K hK => ?_) AllReadyH.nil)
                go_simp
                with_reducible refine Calls.mono (HS.out _ k12a) ?_
                rintro e w12 ⟨pa, wad, wcp, rfl, hR, ⟨hPb, hWb0⟩, k12b⟩
                go_wp2_with fail
                have k12 : Keeps w9 w12 := Keeps.trans k12a k12b
                refine hK.out _ _ ⟨Touch.only k12, cell_keep c7 k12⟩ (fun hHeld => ?_)
                clear hK K
                have hE0 : OwnInts ((w9.alloc (.cells #[] 3)).drew) w9.heap.size (.slice (some ⟨w9.heap.size, 0, none⟩) 0 0) [] := own_empty w9 w9.heap.size w9.heap.size rfl (Nat.le_refl _)
                have hE := hE0.keep k12b
                have hEne : ∀ kk, (Value.slice (some ⟨w9.heap.size, 0, none⟩) 0 0).ownBlock = some kk → kk = w9.heap.size ∧ kk ≠ pa := fun kk e => by have e2 : w9.heap.size = kk := Option.some.inj e; simp at hPb; omega
                have hWb : ∀ b off, wad = some ⟨b, off, none⟩ → b ≠ w9.heap.size := fun b off h => by have := hWb0 b off h; simp at this; omega
                have hPl : pa < w12.heap.size ∧ ∀ b off, wad = some ⟨b, off, none⟩ → b < w12.heap.size := ⟨hPb.2, fun b off h => (hWb0 b off h).2⟩
                refine wpAnyH_ready (rs := [4]) (by kernel_rfl) (by simp) ?_
                refine (AllReadyH.cons rfl (fun K hK => ?_) AllReadyH.nil)
                rw [if_pos (show Region.wanted _ _ = true from rfl)]
                refine wp_app_own (some 231) rfl (.tmp 228) (.tmp 230) rfl w9.heap.size (.slice (some ⟨w9.heap.size, 0, none⟩) 0 0) [] hE rfl w8.heap.size (.slice ar rl.length cr) rl (HOwn.out.keep k12) rfl (by simp; omega) k12.size ?_
                intro v13 w13 hown13 hgr13 hbl13
                have k13 : Keeps w9 w13 := Keeps.grown k12 hgr13 (fun k e => by have := (hE.lt k e).1; omega)
                have hR13 := RSt.grown hR hgr13 (fun e => by have := hEne _ e; omega) (fun b off h e => by have := hEne _ e; have := hWb b off h; omega) (fun b off h e => by have := (hE.lt _ e).1; have := HC3.out b off h; omega)
                have hbb : ∀ kk, v13.ownBlock = some kk → kk ≠ pa ∧ ∀ b off, wad = some ⟨b, off, none⟩ → kk ≠ b := fun kk e => by
                  rcases hbl13 with h | h
                  · rw [h] at e; exact ⟨by have := hEne _ e; omega, fun b off h2 => by have := hEne _ e; have := hWb b off h2; omega⟩
                  · rw [h] at e; simp only [Option.some.injEq] at e; subst e; exact ⟨by have := hPl.1; omega, fun b off h2 => by have := hPl.2 b off h2; omega⟩
                have h13 := hown13.lt
                have l13 : ([] ++ rl : List Int) = rl := rfl
                rw [l13] at hown13
                clear hgr13 hbl13 hE hEne hWb hPl hWb0 hPb l13
                refine hK.out _ _ ⟨Touch.only k13, cell_keep c7 k13⟩ (fun hHeld => ?_)
                clear hK K
                simp only [Act.put, List.setIfInBounds_toArray, List.set_cons_zero, List.set_cons_succ]
                refine wpAnyH_ready (rs := [6]) (by kernel_rfl) (by simp) ?_
                refine (AllReadyH.cons rfl (fun K hK => ?_) AllReadyH.nil)
                rw [if_pos (show Region.wanted _ _ = true from rfl)]
                refine wp_app_own (some 233) rfl (.tmp 231) (.tmp 232) rfl w9.heap.size v13 rl hown13 rfl w6.heap.size u9 stl (HSt9.out.keep k13) rfl (by omega) k13.size ?_
                intro v14 w14 hown14 hgr14 hbl14
                have k14 : Keeps w9 w14 := Keeps.grown k13 hgr14 (fun k e => (h13 k e).1)
                have hR14 := RSt.grown hR13 hgr14 (fun e => (hbb _ e).1 rfl) (fun b off h e => (hbb _ e).2 b off h rfl) (fun b off h e => by have := (h13 _ e).1; have := HC3.out b off h; omega)
                clear hgr14 hbl14 hbb h13 hown13 hR13 hR
                refine hK.out _ _ ⟨Touch.only k14, cell_keep c7 k14⟩ (fun hHeld => ?_)
                clear hK K
                simp only [Act.put, List.setIfInBounds_toArray, List.set_cons_zero, List.set_cons_succ]
                obtain ⟨fa, fc, hfv, _, hfrd, _⟩ := hown14.cap
                have hfl : (rl ++ stl).length ≤ 1000 ∧ (∀ j, j < (rl ++ stl).length → (rl ++ stl).getD j 0 = 0 ∨ (rl ++ stl).getD j 0 ∈ ats) ∧ ∀ x, x ∈ rl ++ stl → ∃ j, j < (rl ++ stl).length ∧ (rl ++ stl).getD j 0 = x := ⟨by simp; omega, fun j hj => HFr.out _ (by rw [List.getD_eq_getElem?_getD, List.getElem?_eq_getElem hj]; exact List.getElem_mem _), fun x hx => by obtain ⟨i, hi, e⟩ := List.getElem_of_mem hx; exact ⟨i, hi, by rw [List.getD_eq_getElem?_getD, List.getElem?_eq_getElem hi]; exact e⟩⟩
                have HFl := Lib.hid hfl
                clear hfl hown14
                generalize (rl ++ stl).length = fn at *
                obtain ⟨frf, hfrf⟩ : ∃ frf : Nat → Int, (fun j => (rl ++ stl).getD j 0) = frf := ⟨_, rfl⟩
                have HFl2 := Lib.hid (show fn ≤ 1000 ∧ (∀ j, j < fn → frf j = 0 ∨ frf j ∈ ats) ∧ ∀ x, x ∈ rl ++ stl → ∃ j, j < fn ∧ frf j = x from by rw [← hfrf]; exact HFl.out)
                rw [hfrf] at hfrd
                clear hfrf HFl
                subst hfv
                refine wpAnyH_ready (rs := [7]) (by kernel_rfl) (by simp) ?_
                refine (AllReadyH.cons rfl (fun K hK => ?_) AllReadyH.nil)
                rw [if_pos (show Region.wanted _ _ = true from rfl)]
                go_simp
                with_reducible refine Calls.mono (HRe.out w14 pa wad wcp hR14 fa fn fc frf hfrd HFl2.out.1 HFl2.out.2.1) ?_
                rintro e w15 ⟨v15, out, rfl, hown15, hRI, hRt, hRc, k15⟩
                go_wp2_with fail
                have k15' := Keeps.trans k14 k15
                refine hK.out _ _ ⟨Touch.only k15', cell_keep c7 k15'⟩ (fun hHeld => ?_)
                clear hK K
                obtain ⟨oa, oc, hov, hoc, hord, _⟩ := hown15.cap
                have hon : oa = none → out.length = 0 ∧ oc = 0 := fun e => by
                  subst e
                  rcases hown15.cases_ with ⟨h, h2⟩ | ⟨g, cap, h, _⟩
                  · rw [hov] at h; simp only [Value.slice.injEq, true_and] at h; exact h
                  · rw [hov] at h; cases h
                subst hov
                have hol : out.length ≤ 60 := by have := nodup_len out ats hRI.nd (fun x hx => (hRI.inn x hx).1); have := HNa.out; omega
                have HSo := Lib.hid (sort_any oa out.length oc _ w15 hord (by omega) hon)
                rw [getD_range] at HSo
                clear hon hoc hown15 hord
                have hon2 := hol
                generalize hong : out.length = on at *
                have HOng := Lib.hid hong
                clear hong
                refine wpAnyH_ready (rs := [8]) (by kernel_rfl) (by simp) ?_
                refine (AllReadyH.cons rfl (fun K hK => ?_) AllReadyH.nil)
                rw [if_pos (show Region.wanted _ _ = true from rfl)]
                go_simp
                with_reducible refine Calls.mono HSo.out ?_
                rintro e w16 ⟨v16, stay, rfl, hown16, hris, hperm, k16⟩
                go_wp2_with fail
                have k16' := Keeps.trans k15' k16
                refine hK.out _ _ ⟨Touch.only k16', cell_keep c7 k16'⟩ (fun hHeld => ?_)
                clear hK K
                obtain ⟨sa, sc, hsv⟩ := hown16.form
                subst hsv
                have B16 := BL.keep HB9.out k16'
                have c16 := B16.c 6 _ rfl
                have f16 := B16.fz 6
                have hs16 : w9.heap.size ≤ w15.heap.size := k15'.size
                refine' wpAnyH_take (i := 9) ?hi9_4 ?hs9_4 ?hf9_4 ?hr9_4 ?hQ9_4 ?hy9_4 (by assumption) ?rest9_4
                case hi9_4 => simp only [List.getElem?_toArray, List.getElem?_cons_succ, List.getElem?_cons_zero] <;> rfl
                case hs9_4 => kernel_rfl
                case hf9_4 => kernel_rfl
                case hr9_4 => kernel_rfl
                case hQ9_4 => exact fun _ _ _ h => h
                case hy9_4 => exact Or.inl ⟨by rfl, fun w hSw => by go_simp <;> (try with_reducible rfl)⟩
                simp only [Act.put, List.setIfInBounds_toArray, List.set_cons_zero, List.set_cons_succ]
                refine wpAnyH_ready (rs := [10]) (by kernel_rfl) (by simp) ?_
                refine (AllReadyH.cons rfl (fun K hK => ?_) AllReadyH.nil)
                go_simp
                refine hK.out _ _ ⟨Touch.set (Touch.only k16') 6 _, (BL.set B16 6 _).c 7 _ rfl⟩ (fun hHeld => ?_)
                clear hK K
                refine wpAnyH_done (by kernel_rfl) ?_ _
                refine NoPanic.normal ?_
                go_wp2_with fail
                go_meet
                refine ⟨sa, stay.length, sc, stay, BL.set B16 6 _, (hown16.mono hs16).touch (Touch.set (Only.refl xb w16) 6 _) (fun kk e h => by have := (hown16.lt kk e).1; omega), ⟨rising_strict hris (hperm.symm.nodup hRI.nd), fun x hx => (hRI.inn x (hperm.mem_iff.1 hx)).1, fun x hx => ?_, fun a ha x hx => ?_⟩, by have := hperm.length_eq; have := HOng.out; omega, hHeld.1⟩
                · by_cases h0 : x = 0
                  · exact .inl h0
                  · exact .inr (hperm.mem_iff.2 (hRt x (HFl2.out.2.2 x (List.mem_append_left stl hx)) h0))
                · by_cases h0 : x = 0
                  · exact .inl h0
                  · exact .inr (hperm.mem_iff.2 (hRc a (hperm.mem_iff.1 ha) x hx h0))
            case rest =>
            obtain ⟨w11, rfl⟩ : ∃ w11 : World, w11 = wc := ⟨_, rfl⟩
            obtain ⟨sa, sn, sc, stay, hB, hS, hIs, hsl11, o11⟩ := hcut
            have l0 := BL.c hB 0 _ rfl
            have l1 := BL.c hB 1 _ rfl
            have l2 := BL.c hB 2 _ rfl
            have l3 := BL.c hB 3 _ rfl
            have l4 := BL.c hB 4 _ rfl
            have l5 := BL.c hB 5 _ rfl
            have l6 := BL.c hB 6 _ rfl
            have l7 := BL.c hB 7 _ rfl
            have l8 := BL.c hB 8 _ rfl
            have BR11 := ((HBR8.out.touch o9 (show ¬ w.heap.size + 1 = xb by omega)).touch o11 (show ¬ w.heap.size + 1 = xb by omega))
            have z11 := o11.size
            have HS11 := Lib.hid hS
            have HIs := Lib.hid hIs
            have o12 : Only xb w8 w11 := Only.trans_ o9 o11
            have HO9 := Lib.hid (HOwn.out.touch o11 (fun kk e h => by have := (HOwn.out.lt kk e).1; omega))
            clear hB hS hIs c7 f7 hlo
            go_wp2_with (first | (refine store_bl ?_ 36 (.tmp 2) (.tmp 237) ?_ BR11 ?_ [.pointer (some ⟨ba, 0, none⟩), .pointer (some ⟨bt, 0, none⟩), .pointer (some ⟨ba, 0, none⟩), .pointer (some ⟨bt, 0, none⟩), .slice (some ⟨gs, 0, none⟩) 3 scp, .slice ad na cpa, .slice sa sn sc, .slice ar rl.length cr, .slice Ac m cc] ?_ sz_life rfl rfl ?_; rfl; rfl; rfl; rfl; intro X BX kX))
            have s0_ := BX.c 0 (.pointer (some ⟨ba, 0, none⟩)) rfl
            have s1_ := BX.c 1 (.pointer (some ⟨bt, 0, none⟩)) rfl
            have s2_ := BX.c 2 (.pointer (some ⟨ba, 0, none⟩)) rfl
            have s3_ := BX.c 3 (.pointer (some ⟨bt, 0, none⟩)) rfl
            have s4_ := BX.c 4 (.slice (some ⟨gs, 0, none⟩) 3 scp) rfl
            have s5_ := BX.c 5 (.slice ad na cpa) rfl
            have s6_ := BX.c 6 (.slice sa sn sc) rfl
            have s7_ := BX.c 7 (.slice ar rl.length cr) rfl
            have s8_ := BX.c 8 (.slice Ac m cc) rfl
            have hna := HNa.out
            have oX : Touch (fun kk => kk = xb ∨ kk = w.heap.size + 1) w8 X := Touch.trans (o12.mono (fun _ h _ => .inl h)) kX (fun x hx _ => .inr hx)
            have hAt := (HL8.out.at_.touch oX (fun kk e h => by have := (HL8.out.at_.lt kk e).1; omega))
            have hbb := HL8.out.at_.lt
            have hSt := (HSt9.out.lt)
            have r1 : St X ba bw 500 f8 bt A m cap C := HL8.out.st.touch oX (by omega) (by omega) (by omega) (fun b off e => by have := (HAb.out b off e); omega)
            have r2 := HL8.out.row.at_touch oX (by omega) oX.size
            have r3 : OwnInts X w.heap.size (.slice ad na cpa) ats := hAt.mono (by omega)
            have r4 : OwnInts X w.heap.size (.slice sa sn sc) stay := (HS11.out.touch kX (fun kk e h => by have := (HS11.out.lt kk e).1; omega)).mono (by omega)
            have r5 : OwnInts X w.heap.size (.slice ar rl.length cr) rl := (HO9.out.touch kX (fun kk e h => by have := (HO9.out.lt kk e).1; omega)).mono (by omega)
            have r6 : (w.heap.size ≤ gs ∧ gs ≠ bw) ∧ (w.heap.size ≤ bw ∧ w.heap.size ≤ ba) := ⟨⟨by omega, by omega⟩, by omega, by omega⟩
            have r7 : ∀ kk, (Value.slice ad na cpa).ownBlock = some kk → kk ≠ bw := fun kk e => by have := (hbb kk e).1; omega
            have r8 : ∀ kk, (Value.slice sa sn sc).ownBlock = some kk → kk ≠ bw := fun kk e => by have := (HS11.out.lt kk e).1; omega
            have r9 : ∀ kk, (Value.slice ar rl.length cr).ownBlock = some kk → kk ≠ bw := fun kk e => by have := (HO9.out.lt kk e).1; omega
            have r10 : ats.length ≤ 60 ∧ rl.length ≤ 20 ∧ m < 64 ∧ j ≤ 60 ∧ 0 < m := ⟨by omega, by omega, by omega, by omega, by omega⟩
            have r11 : Keeps w X := Touch.trans K8 oX (fun x hx hlt => by omega)
            have HQ := Lib.hid (show MadeOut Ac m cc C j T w (.returned (.tuple #[.agg #[.pointer (some ⟨ba, 0, none⟩), .pointer (some ⟨bt, 0, none⟩), .pointer (some ⟨ba, 0, none⟩), .pointer (some ⟨bt, 0, none⟩), .slice (some ⟨gs, 0, none⟩) 3 scp, .slice ad na cpa, .slice sa sn sc, .slice ar rl.length cr, .slice Ac m cc], .bool true])) X from .inr ⟨ba, bw, f8, bt, A, cap, gs, scp, .slice ad na cpa, .slice sa sn sc, .slice ar rl.length cr, L, G, ats, stay, rl, rfl, ⟨r1, r2, r3, r4, r5, HL8.out.inv, HIs.out, r6.1, r6.2, r7, r8, r9, r10.1, hsl11, r10.2.1⟩, HFu8.out, r10.2.2, r11⟩)
            clear r1 r2 r3 r4 r5 r6 r7 r8 r9 r10 r11 hAt hbb hSt
            refine bodyPost_ret (v := .tuple #[.agg #[.pointer (some ⟨ba, 0, none⟩), .pointer (some ⟨bt, 0, none⟩), .pointer (some ⟨ba, 0, none⟩), .pointer (some ⟨bt, 0, none⟩), .slice (some ⟨gs, 0, none⟩) 3 scp, .slice ad na cpa, .slice sa sn sc, .slice ar rl.length cr, .slice Ac m cc], .bool true]) ?_ rfl HQ.out
            simp [results, Tryz.results4, go_sem, s0_, s1_, s2_, s3_, s4_, s5_, s6_, s7_, s8_]
  · have hE1 : newE C m ≠ 0 := fun h => hC0 (HE.1 h)
    obtain ⟨x, hx⟩ : ∃ x, newE C m = x := ⟨_, rfl⟩
    rw [hx] at HNw hE1
    have hxb : (x != 0) = true := by simpa using hE1
    clear HE hx hC0 hE1
    go_wp2_with fail
    refine Calls.mono (HNw.out _ K1) ?_
    rintro e w2 ⟨rfl, k2⟩
    have K2 := Keeps.trans K1 k2
    have BR2 := BR.keep k2
    have z2 := k2.size
    go_wp2_with (first | (refine store_bl ?_ 36 (.tmp 2) (.tmp 56) ?_ BR2 ?_ [.pointer none, .pointer none, .pointer none, .pointer none, .slice none 0 0, .slice none 0 0, .slice none 0 0, .slice none 0 0, .slice none 0 0] ?_ sz_life rfl rfl ?_; rfl; rfl; rfl; rfl; intro X BX kX))
    have s0 := BX.c 0 (.pointer none) rfl
    have s1 := BX.c 1 (.pointer none) rfl
    have s2 := BX.c 2 (.pointer none) rfl
    have s3 := BX.c 3 (.pointer none) rfl
    have s4 := BX.c 4 (.slice none 0 0) rfl
    have s5 := BX.c 5 (.slice none 0 0) rfl
    have s6 := BX.c 6 (.slice none 0 0) rfl
    have s7 := BX.c 7 (.slice none 0 0) rfl
    have s8 := BX.c 8 (.slice none 0 0) rfl
    refine bodyPost_ret (v := .tuple #[.agg #[.pointer none, .pointer none, .pointer none, .pointer none, .slice none 0 0, .slice none 0 0, .slice none 0 0, .slice none 0 0, .slice none 0 0], .bool false]) (by simp [results, Tryz.results4, go_sem, s0, s1, s2, s3, s4, s5, s6, s7, s8]) rfl (.inl ⟨rfl, Touch.new K2 kX (by omega)⟩)

end Go.Proofs.YtkjgfblkbjlohaaGreat
