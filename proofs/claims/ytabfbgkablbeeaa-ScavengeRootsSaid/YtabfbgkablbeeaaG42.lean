/- Layer 15's made. -/
import Derived.Test.YtabfbgkablbeeaaG41
import Derived.Test.YtabfbgkablbeeaaG30
import Derived.Test.YtabfbgkablbeeaaG13
set_option linter.all false

namespace Go.Proofs.Ytabfbgkablbeeaa
open Go.RowKit

theorem refN_nil {n m : Nat} {C : Nat → Cl} {R : Nat → Rg} {s : Lw} (h : s.at_.length = 0) : ∀ i, refN n m C R s i = s
  | 0 => rfl
  | i + 1 => by
    show (refN n m C R s i).ref n m C _ _ _ = s
    rw [refN_nil h i]
    unfold Lw.ref
    rw [if_pos h]
theorem Lw.ref_no {s : Lw} {n m : Nat} {C : Nat → Cl} {a b c fa : Int} {na p : Nat} (hl : s.at_.length = na) (h0 : ¬ (na : Int) = 0) (hp : a % na = p) (hf : s.at_.getD p 0 = fa) (hr : (atT n s.f m C fa).1.refs ≤ 0) : s.ref n m C a b c = s := by
  unfold Lw.ref
  rw [if_neg (by omega), hl, hp, show ((p : Int)).toNat = p by omega, hf, if_pos hr]
theorem Lw.ref_yes {s : Lw} {n m : Nat} {C : Nat → Cl} {a b c fa q tz : Int} {na p p2 : Nat} (hl : s.at_.length = na) (h0 : ¬ (na : Int) = 0) (hp : a % na = p) (hf : s.at_.getD p 0 = fa) (hr : 0 < (atT n s.f m C fa).1.refs) (hq : b % (atT n s.f m C fa).1.refs = q) (hc : c % ((na : Int) + 1) = p2) (ht : (if p2 = 0 then 0 else s.at_.getD (p2 - 1) 0) = tz) : (s.ref n m C a b c).f = putF s.f (refAt fa q).toNat tz := by
  have hq0 : 0 ≤ q := by rw [← hq]; exact Int.emod_nonneg b (by omega)
  unfold Lw.ref
  rw [if_neg (by omega), hl, hp, show ((p : Int)).toNat = p by omega, hf, if_neg (by omega), hq, hc]
  have e : pick s.at_ (p2 : Int) = tz := by
    rw [← ht]
    unfold pick
    by_cases h : p2 = 0
    · rw [if_pos (by omega), if_pos h]
    · rw [if_neg (by omega), if_neg h, show ((p2 : Int) - 1).toNat = p2 - 1 by omega]
  rw [e]
  show putF s.f (fa + 2 + (q.toNat : Int)).toNat tz = _
  rw [show ((q.toNat : Nat) : Int) = q by omega]
  rfl
theorem pick_nat (l : List Int) (k : Nat) : pick l (k : Int) = if k = 0 then 0 else l.getD (k - 1) 0 := by
  unfold pick
  by_cases h : k = 0
  · rw [if_pos (by omega), if_pos h]
  · rw [if_neg (by omega), if_neg h, show ((k : Int) - 1).toNat = k - 1 by omega]
theorem splF15 (x0 : Int) : ∀ j, j < 4 → splF 1 (fun k => if k = 0 then 400 else if k = 1 then 200 else x0) j = (Lw.start x0).sp (beg15 x0) (end15 x0) j := fun j hj => by
  rcases (by omega : j = 0 ∨ j = 1 ∨ j = 2 ∨ j = 3) with rfl | rfl | rfl | rfl <;> simp [splF, offs, Lw.sp, Lw.start, beg15, end15]
set_option maxRecDepth 100000 in
set_option maxHeartbeats 8000000 in
theorem made_any (w : World) (Ac : Option Addr) (m cc : Nat) (C : Nat → Cl) (Th : Option Addr) (nt tc : Nat) (T : Nat → Tg) (Rf : Option Addr) (nr rc : Nat) (R : Nat → Int) (Ro : Option Addr) (nz zc : Nat) (Z : Nat → Int) (s0 s1 : Int) (h : WArg w Ac m cc C Th nt T Rf nr R Ro nz Z s0 s1) :
    Calls Try.prog 6 #[.agg #[.slice Ac m cc, .slice Th nt tc, .slice Rf nr rc, .slice Ro nz zc, .int .u8 s0, .int .u8 s1]] w (MadeOut w Ac m cc C nt T nr R nz Z s0 s1) := by
  have HA := Lib.hid h
  have HNw := Lib.hid (show ∀ w', Keeps w w' → Calls Try.prog 10 #[.slice Ac m cc] w' fun e w2 => e = .returned (.int .i64 (newE C m)) ∧ Keeps w' w2 from fun w' k => rnew_cls Ac m cc C w' (h.cls.keep k) (by have := h.cl; omega))
  have hl1 := h.cl
  have hl2 := h.tl
  have hl3 := h.rl
  have hl4 := h.zl
  have hzl := zero_life
  clear h
  go_enter Try.func6, Try.ntmps6
  go_upto_region 1 with fail
  refine named_code (fun w1 hW1 => ?_)
  have K1 : Keeps w w1 := by rw [hW1]; exact ((Touch.refl _ w).alloc _).alloc _
  have BW : BL w1 w.heap.size 27 (worldV Ac m cc Th nt tc Rf nr rc Ro nz zc s0 s1) := by rw [hW1]; exact (BL.new1 w _ _ [.slice Ac m cc, .slice Th nt tc, .slice Rf nr rc, .slice Ro nz zc, .int .u8 s0, .int .u8 s1] _ rfl rfl).alloc _
  have BR : BL w1 (w.heap.size + 1) 42 zeroLife := by rw [hW1]; exact BL.new1 _ _ _ [.pointer none, .pointer none, .pointer none, .pointer none, .int .i64 0, .int .i64 0, .int .i64 0, .int .i64 0, .int .i64 0, .int .i64 0, .int .i64 0, .int .i64 0, .int .i64 0, .int .i64 0, .int .i64 0, .int .i64 0, .int .i64 0, .slice none 0 0, .slice none 0 0, .pointer none, .slice none 0 0] _ (by simp) rfl
  have z1 : w1.heap.size = w.heap.size + 2 := by rw [hW1]; simp
  clear hW1
  have c0 : w1.cell? ⟨w.heap.size, 0, none⟩ = some (.slice Ac m cc) := BW.c 0 _ rfl
  have c1 : w1.cell? ⟨w.heap.size, 1, none⟩ = some (.slice Th nt tc) := BW.c 1 _ rfl
  have c2 : w1.cell? ⟨w.heap.size, 2, none⟩ = some (.slice Rf nr rc) := BW.c 2 _ rfl
  have c3 : w1.cell? ⟨w.heap.size, 3, none⟩ = some (.slice Ro nz zc) := BW.c 3 _ rfl
  by_cases g0 : 60 < nt
  · have g0b : (60 : Int) < nt := by omega
    go_wp2_with (first | (refine store_bl ?_ 42 (.tmp 2) (.tmp 57) ?_ BR ?_ [.pointer none, .pointer none, .pointer none, .pointer none, .int .i64 0, .int .i64 0, .int .i64 0, .int .i64 0, .int .i64 0, .int .i64 0, .int .i64 0, .int .i64 0, .int .i64 0, .int .i64 0, .int .i64 0, .int .i64 0, .int .i64 0, .slice none 0 0, .slice none 0 0, .pointer none, .slice none 0 0] ?_ sz_life rfl rfl ?_; rfl; rfl; rfl; rfl; intro X BX kX))
    refine bodyPost_ret (v := .tuple #[.agg #[.pointer none, .pointer none, .pointer none, .pointer none, .int .i64 0, .int .i64 0, .int .i64 0, .int .i64 0, .int .i64 0, .int .i64 0, .int .i64 0, .int .i64 0, .int .i64 0, .int .i64 0, .int .i64 0, .int .i64 0, .int .i64 0, .slice none 0 0, .slice none 0 0, .pointer none, .slice none 0 0], .bool false]) (res_life _ Try.results6 rfl rfl BX rfl) rfl (.inl ⟨fun hg => by obtain ⟨g0, g1, g2, g3, g4, _⟩ := hg; omega, rfl, Touch.new K1 kX (by omega)⟩)
  have g0b : decide ((60 : Int) < nt) = false := decide_eq_false (by omega)
  by_cases g1 : 200 < nr
  · have g1b : (200 : Int) < nr := by omega
    go_wp2_with (first | (refine store_bl ?_ 42 (.tmp 2) (.tmp 57) ?_ BR ?_ [.pointer none, .pointer none, .pointer none, .pointer none, .int .i64 0, .int .i64 0, .int .i64 0, .int .i64 0, .int .i64 0, .int .i64 0, .int .i64 0, .int .i64 0, .int .i64 0, .int .i64 0, .int .i64 0, .int .i64 0, .int .i64 0, .slice none 0 0, .slice none 0 0, .pointer none, .slice none 0 0] ?_ sz_life rfl rfl ?_; rfl; rfl; rfl; rfl; intro X BX kX))
    refine bodyPost_ret (v := .tuple #[.agg #[.pointer none, .pointer none, .pointer none, .pointer none, .int .i64 0, .int .i64 0, .int .i64 0, .int .i64 0, .int .i64 0, .int .i64 0, .int .i64 0, .int .i64 0, .int .i64 0, .int .i64 0, .int .i64 0, .int .i64 0, .int .i64 0, .slice none 0 0, .slice none 0 0, .pointer none, .slice none 0 0], .bool false]) (res_life _ Try.results6 rfl rfl BX rfl) rfl (.inl ⟨fun hg => by obtain ⟨g0, g1, g2, g3, g4, _⟩ := hg; omega, rfl, Touch.new K1 kX (by omega)⟩)
  have g1b : decide ((200 : Int) < nr) = false := decide_eq_false (by omega)
  by_cases g2 : 20 < nz
  · have g2b : (20 : Int) < nz := by omega
    go_wp2_with (first | (refine store_bl ?_ 42 (.tmp 2) (.tmp 57) ?_ BR ?_ [.pointer none, .pointer none, .pointer none, .pointer none, .int .i64 0, .int .i64 0, .int .i64 0, .int .i64 0, .int .i64 0, .int .i64 0, .int .i64 0, .int .i64 0, .int .i64 0, .int .i64 0, .int .i64 0, .int .i64 0, .int .i64 0, .slice none 0 0, .slice none 0 0, .pointer none, .slice none 0 0] ?_ sz_life rfl rfl ?_; rfl; rfl; rfl; rfl; intro X BX kX))
    refine bodyPost_ret (v := .tuple #[.agg #[.pointer none, .pointer none, .pointer none, .pointer none, .int .i64 0, .int .i64 0, .int .i64 0, .int .i64 0, .int .i64 0, .int .i64 0, .int .i64 0, .int .i64 0, .int .i64 0, .int .i64 0, .int .i64 0, .int .i64 0, .int .i64 0, .slice none 0 0, .slice none 0 0, .pointer none, .slice none 0 0], .bool false]) (res_life _ Try.results6 rfl rfl BX rfl) rfl (.inl ⟨fun hg => by obtain ⟨g0, g1, g2, g3, g4, _⟩ := hg; omega, rfl, Touch.new K1 kX (by omega)⟩)
  have g2b : decide ((20 : Int) < nz) = false := decide_eq_false (by omega)
  by_cases g3 : m = 0
  · subst g3
    go_wp2_with (first | (refine store_bl ?_ 42 (.tmp 2) (.tmp 57) ?_ BR ?_ [.pointer none, .pointer none, .pointer none, .pointer none, .int .i64 0, .int .i64 0, .int .i64 0, .int .i64 0, .int .i64 0, .int .i64 0, .int .i64 0, .int .i64 0, .int .i64 0, .int .i64 0, .int .i64 0, .int .i64 0, .int .i64 0, .slice none 0 0, .slice none 0 0, .pointer none, .slice none 0 0] ?_ sz_life rfl rfl ?_; rfl; rfl; rfl; rfl; intro X BX kX))
    refine bodyPost_ret (v := .tuple #[.agg #[.pointer none, .pointer none, .pointer none, .pointer none, .int .i64 0, .int .i64 0, .int .i64 0, .int .i64 0, .int .i64 0, .int .i64 0, .int .i64 0, .int .i64 0, .int .i64 0, .int .i64 0, .int .i64 0, .int .i64 0, .int .i64 0, .slice none 0 0, .slice none 0 0, .pointer none, .slice none 0 0], .bool false]) (res_life _ Try.results6 rfl rfl BX rfl) rfl (.inl ⟨fun hg => by obtain ⟨g0, g1, g2, g3, g4, _⟩ := hg; omega, rfl, Touch.new K1 kX (by omega)⟩)
  have g3b : ((m : Int) == 0) = false := by simp; omega
  by_cases g4 : 63 < m
  · have g4b : (63 : Int) < m := by omega
    go_wp2_with (first | (refine store_bl ?_ 42 (.tmp 2) (.tmp 57) ?_ BR ?_ [.pointer none, .pointer none, .pointer none, .pointer none, .int .i64 0, .int .i64 0, .int .i64 0, .int .i64 0, .int .i64 0, .int .i64 0, .int .i64 0, .int .i64 0, .int .i64 0, .int .i64 0, .int .i64 0, .int .i64 0, .int .i64 0, .slice none 0 0, .slice none 0 0, .pointer none, .slice none 0 0] ?_ sz_life rfl rfl ?_; rfl; rfl; rfl; rfl; intro X BX kX))
    refine bodyPost_ret (v := .tuple #[.agg #[.pointer none, .pointer none, .pointer none, .pointer none, .int .i64 0, .int .i64 0, .int .i64 0, .int .i64 0, .int .i64 0, .int .i64 0, .int .i64 0, .int .i64 0, .int .i64 0, .int .i64 0, .int .i64 0, .int .i64 0, .int .i64 0, .slice none 0 0, .slice none 0 0, .pointer none, .slice none 0 0], .bool false]) (res_life _ Try.results6 rfl rfl BX rfl) rfl (.inl ⟨fun hg => by obtain ⟨g0, g1, g2, g3, g4, _⟩ := hg; omega, rfl, Touch.new K1 kX (by omega)⟩)
  have g4b : decide ((63 : Int) < m) = false := decide_eq_false (by omega)
  have HE : newE C m = 0 ↔ ∀ j, j < m → rgB (C j) = true := by
    unfold newE
    split
    · rename_i hh
      rw [if_neg (by omega)]
      exact ⟨fun _ => hh, fun _ => rfl⟩
    · rename_i hh
      exact ⟨fun h => by omega, fun h => absurd h hh⟩
  by_cases hC0 : ∀ j, j < m → rgB (C j) = true
  · have hE0 := HE.2 hC0
    have HC := Lib.hid hC0
    have HGood := Lib.hid (show Good15 m C nt nr nz from ⟨by omega, by omega, by omega, by omega, by omega, hC0⟩)
    rw [hE0] at HNw
    clear HE hE0 hC0
    have HCn1 := Lib.hid (show ∀ w', Keeps w w' → Calls Try.prog 11 #[.slice Ac m cc] w' fun e w2 => ∃ bt A' cap', e = .returned (.tuple #[.pointer (some ⟨bt, 0, none⟩), .int .i64 0]) ∧ Tb w2 bt A' m cap' C ∧ w'.heap.size ≤ bt ∧ (∀ b off, A' = some ⟨b, off, none⟩ → w'.heap.size ≤ b ∧ b < w2.heap.size) ∧ Keeps w' w2 from fun w' k => cnew_yes Ac m cc HA.out.cn C w' (HA.out.cls.keep k) (by omega) HC.out)
    go_wp2_with fail
    refine Calls.mono (HNw.out _ K1) ?_
    clear HNw
    rintro e w2 ⟨rfl, k2⟩
    have K2 := Keeps.trans K1 k2
    have BW2 := BW.keep k2
    have BR2 := BR.keep k2
    have z2 := k2.size
    have c0 : w2.cell? ⟨w.heap.size, 0, none⟩ = some (.slice Ac m cc) := BW2.c 0 _ rfl
    clear BW BR k2 c1 c2 c3
    go_wp2_with fail
    refine Calls.mono (HCn1.out _ K2) ?_
    clear HCn1
    rintro e w3 ⟨bt, A, cap, rfl, hTb, hbt, hAb, k3⟩
    have K3 := Keeps.trans K2 k3
    have BW3 := BW2.keep k3
    have BR3 := BR2.keep k3
    have z3 := k3.size
    have hbl := hTb.head.lt
    have HTb := Lib.hid hTb
    have HAb := Lib.hid hAb
    have c4 : w3.cell? ⟨w.heap.size, 4, none⟩ = some (.int .u8 s0) := BW3.c 4 _ rfl
    have lw := BW3.lt
    clear BW2 BR2 k3 c0 hTb hAb
    obtain ⟨a1, a2⟩ := HA.out.s0
    obtain ⟨a3, a4⟩ := HA.out.s1
    have e0 : IntKind.i64.wrap s0 = s0 := IntWalk.i64_in _ ⟨by omega, by omega⟩
    have e1 : IntKind.i64.wrap s1 = s1 := IntWalk.i64_in _ ⟨by omega, by omega⟩
    obtain ⟨x0, hx0⟩ : ∃ x, s0.tmod 101 = x := ⟨_, rfl⟩
    obtain ⟨x1, hx1⟩ : ∃ x, s1.tmod 8 = x := ⟨_, rfl⟩
    have HX0 := Lib.hid (show s0 % 101 = x0 by rw [← hx0, Int.tmod_eq_emod_of_nonneg a1])
    have HX1 := Lib.hid (show s1 % 8 = x1 by rw [← hx1, Int.tmod_eq_emod_of_nonneg a3])
    have b0 : 0 ≤ x0 ∧ x0 ≤ 100 := by have := HX0.out; omega
    have b1 : 0 ≤ x1 ∧ x1 ≤ 7 := by have := HX1.out; omega
    obtain ⟨Zf, hZf⟩ : ∃ Zf : Nat → Int, Zf = fun k => if k = 0 then 400 else if k = 1 then 200 else x0 := ⟨_, rfl⟩
    have HSp := Lib.hid (show ∀ w' N, Rd w' (some ⟨N, 0, none⟩) 4 (intF .i64 Zf) → Calls Try.prog 12 #[.int .i64 1, .slice (some ⟨N, 0, none⟩) 4 4] w' fun e w2 => ∃ ad cp, e = .returned (.tuple #[.slice ad 4 cp, .int .i64 0]) ∧ OwnSp 36 w2 w'.heap.size (.slice ad 4 cp) (splF 1 Zf) 4 ∧ Keeps w' w2 from fun w' N hr =>
      split_yes 1 _ 4 4 Zf w' hr (by omega) (fun k hk => by rw [hZf]; dsimp only; split <;> (try split) <;> omega) (by omega) (by simp only [offs, hZf]; simp; omega))
    have HZf := Lib.hid (show ∀ j, j < 4 → splF 1 Zf j = (Lw.start x0).sp (beg15 x0) (end15 x0) j from by rw [hZf]; exact splF15 x0)
    have hrd := BL.new1 w3 3 _ [.int .i64 400, .int .i64 200, .int .i64 x0, .int .i64 x0] w3.heap.size rfl rfl
    have hr3 : Rd (w3.alloc (.cells #[.int .i64 400, .int .i64 200, .int .i64 x0, .int .i64 x0] 3)) (some ⟨w3.heap.size, 0, none⟩) 4 (intF .i64 Zf) := fun _ => ⟨w3.heap.size, 0, rfl, by simp, fun j hj => by
      rcases (by omega : j = 0 ∨ j = 1 ∨ j = 2 ∨ j = 3) with rfl | rfl | rfl | rfl
      · rw [hrd.c 0 _ rfl, hZf]; rfl
      · rw [hrd.c 1 _ rfl, hZf]; rfl
      · rw [hrd.c 2 _ rfl, hZf]; rfl
      · rw [hrd.c 3 _ rfl, hZf]; rfl⟩
    have HR3 := Lib.hid hr3
    clear hrd hr3 hZf
    go_wp2_with fail
    refine Calls.mono (HSp.out _ _ HR3.out) ?_
    clear HSp HR3 c4
    rintro e w4 ⟨gsA, scp, rfl, hSp, k4⟩
    obtain ⟨gs, cq, _, hv, hgs, _, _, _⟩ := hSp.blk (by omega)
    simp only [Value.slice.injEq, true_and] at hv
    obtain ⟨rfl, rfl⟩ := hv
    obtain ⟨Y, hY⟩ : ∃ Y, Y = (Lw.start x0).sp (beg15 x0) (end15 x0) := ⟨_, rfl⟩
    rw [← hY] at HZf
    have HY := Lib.hid hY
    have hRs : Rd w4 (some ⟨gs, 0, none⟩) (4 * 3) (spF Y) := (hSp.rd.1).congr fun j hj => by
      have := HZf.out (j / 3) (by omega)
      unfold spF
      rw [this]
    obtain ⟨bb0, bo0, hb0, d0, d1, d2⟩ := hRs.sp (k := 0) (by omega)
    cases hb0
    obtain ⟨bb0, bo0, hb0, d3, d4, d5⟩ := hRs.sp (k := 1) (by omega)
    cases hb0
    obtain ⟨bb0, bo0, hb0, d6, d7, d8⟩ := hRs.sp (k := 2) (by omega)
    cases hb0
    obtain ⟨bb0, bo0, hb0, d9, d10, d11⟩ := hRs.sp (k := 3) (by omega)
    cases hb0
    simp only [Nat.zero_add, Nat.zero_mul, Nat.one_mul, Nat.reduceMul, Nat.reduceAdd] at d0 d1 d2 d3 d4 d5 d6 d7 d8 d9 d10 d11
    have k34 : Keeps w3 w4 := Keeps.trans ((Touch.refl _ w3).alloc _) k4
    have K4 := Keeps.trans K3 k34
    have BW4 := BW3.keep k34
    have BR4 := BR3.keep k34
    have HTb4 := Lib.hid (HTb.out.keep k34)
    have z4 := k34.size
    have c0 : w4.cell? ⟨w.heap.size, 0, none⟩ = some (.slice Ac m cc) := BW4.c 0 _ rfl
    have c5 : w4.cell? ⟨w.heap.size, 5, none⟩ = some (.int .u8 s1) := BW4.c 5 _ rfl
    have lw4 := BW4.lt
    have HMn := Lib.hid (fun w' => mnew_any 1000 (by omega) w')
    have HCn := Lib.hid cdnew_any
    clear hSp hgs k4 k34 BW3 BR3 HTb hY hRs HZf
    go_wp2_with fail
    go_cut [9] from 79 to 101 (fun v wx => ∃ xb ba bw tb mb vb, v = .pointer (some ⟨xb, 0, none⟩) ∧ BL wx xb 42 [.pointer (some ⟨ba, 0, none⟩), .pointer (some ⟨bt, 0, none⟩), .pointer none, .pointer none, .int .i64 (Y 0).f, .int .i64 (Y 0).t, .int .i64 (Y 0).e, .int .i64 (Y 1).f, .int .i64 (Y 1).t, .int .i64 (Y 1).e, .int .i64 (Y 2).f, .int .i64 (Y 2).t, .int .i64 (Y 2).e, .int .i64 (Y 3).f, .int .i64 (Y 3).t, .int .i64 (Y 3).e, .int .i64 x1, .slice none 0 0, .slice none 0 0, .pointer (some ⟨tb, 0, none⟩), .slice Ac m cc] ∧ Ar wx ba bw 1000 (fun _ => 0) ∧ Cd wx tb mb vb (fun _ => false) ∧ (w4.heap.size ≤ xb ∧ w4.heap.size ≤ ba ∧ w4.heap.size ≤ bw ∧ w4.heap.size ≤ tb ∧ w4.heap.size ≤ mb ∧ w4.heap.size ≤ vb) ∧ (xb ≠ ba ∧ xb ≠ bw ∧ xb ≠ tb ∧ xb ≠ mb ∧ xb ≠ vb) ∧ (ba ≠ tb ∧ ba ≠ mb ∧ ba ≠ vb ∧ bw ≠ tb ∧ bw ≠ mb ∧ bw ≠ vb) ∧ Keeps w4 wx)
    case first =>
      clear HTb4 HC HY
      refine wp_region_noPanic ?_
      refine wp_region_held_drew (S := (fun w' => Keeps w4 w')) (by kernel_rfl) (Touch.refl _ w4).drew (fun hHeld => ?_)
      refine' wpAnyH_take (i := 1) ?hi1_1 ?hs1_1 ?hf1_1 ?hr1_1 ?hQ1_1 ?hy1_1 (by assumption) ?rest1_1
      case hi1_1 => simp only [List.getElem?_toArray, List.getElem?_cons_succ, List.getElem?_cons_zero] <;> rfl
      case hs1_1 => kernel_rfl
      case hf1_1 => kernel_rfl
      case hr1_1 => kernel_rfl
      case hQ1_1 => exact fun _ _ _ h => h
      case hy1_1 => exact Or.inl ⟨by rfl, fun w hSw => by have q0 := cell_keep c0 hSw; have q5 := cell_keep c5 hSw; have t0 := cell_keep d0 hSw; have t1 := cell_keep d1 hSw; have t2 := cell_keep d2 hSw; have t3 := cell_keep d3 hSw; have t4 := cell_keep d4 hSw; have t5 := cell_keep d5 hSw; have t6 := cell_keep d6 hSw; have t7 := cell_keep d7 hSw; have t8 := cell_keep d8 hSw; have t9 := cell_keep d9 hSw; have t10 := cell_keep d10 hSw; have t11 := cell_keep d11 hSw; go_simp <;> (try with_reducible rfl)⟩
      simp only [Act.put, List.setIfInBounds_toArray, List.set_cons_zero, List.set_cons_succ]
      refine' wpAnyH_take (i := 2) ?hi2_1 ?hs2_1 ?hf2_1 ?hr2_1 ?hQ2_1 ?hy2_1 (by assumption) ?rest2_1
      case hi2_1 => simp only [List.getElem?_toArray, List.getElem?_cons_succ, List.getElem?_cons_zero] <;> rfl
      case hs2_1 => kernel_rfl
      case hf2_1 => kernel_rfl
      case hr2_1 => kernel_rfl
      case hQ2_1 => exact fun _ _ _ h => h
      case hy2_1 => exact Or.inl ⟨by rfl, fun w hSw => by have q0 := cell_keep c0 hSw; have q5 := cell_keep c5 hSw; have t0 := cell_keep d0 hSw; have t1 := cell_keep d1 hSw; have t2 := cell_keep d2 hSw; have t3 := cell_keep d3 hSw; have t4 := cell_keep d4 hSw; have t5 := cell_keep d5 hSw; have t6 := cell_keep d6 hSw; have t7 := cell_keep d7 hSw; have t8 := cell_keep d8 hSw; have t9 := cell_keep d9 hSw; have t10 := cell_keep d10 hSw; have t11 := cell_keep d11 hSw; go_simp <;> (try with_reducible rfl)⟩
      simp only [Act.put, List.setIfInBounds_toArray, List.set_cons_zero, List.set_cons_succ]
      refine' wpAnyH_take (i := 3) ?hi3_1 ?hs3_1 ?hf3_1 ?hr3_1 ?hQ3_1 ?hy3_1 (by assumption) ?rest3_1
      case hi3_1 => simp only [List.getElem?_toArray, List.getElem?_cons_succ, List.getElem?_cons_zero] <;> rfl
      case hs3_1 => kernel_rfl
      case hf3_1 => kernel_rfl
      case hr3_1 => kernel_rfl
      case hQ3_1 => exact fun _ _ _ h => h
      case hy3_1 => exact Or.inl ⟨by rfl, fun w hSw => by have q0 := cell_keep c0 hSw; have q5 := cell_keep c5 hSw; have t0 := cell_keep d0 hSw; have t1 := cell_keep d1 hSw; have t2 := cell_keep d2 hSw; have t3 := cell_keep d3 hSw; have t4 := cell_keep d4 hSw; have t5 := cell_keep d5 hSw; have t6 := cell_keep d6 hSw; have t7 := cell_keep d7 hSw; have t8 := cell_keep d8 hSw; have t9 := cell_keep d9 hSw; have t10 := cell_keep d10 hSw; have t11 := cell_keep d11 hSw; go_simp <;> (try with_reducible rfl)⟩
      simp only [Act.put, List.setIfInBounds_toArray, List.set_cons_zero, List.set_cons_succ]
      refine' wpAnyH_take (i := 4) ?hi4_1 ?hs4_1 ?hf4_1 ?hr4_1 ?hQ4_1 ?hy4_1 (by assumption) ?rest4_1
      case hi4_1 => simp only [List.getElem?_toArray, List.getElem?_cons_succ, List.getElem?_cons_zero] <;> rfl
      case hs4_1 => kernel_rfl
      case hf4_1 => kernel_rfl
      case hr4_1 => kernel_rfl
      case hQ4_1 => exact fun _ _ _ h => h
      case hy4_1 => exact Or.inl ⟨by rfl, fun w hSw => by have q0 := cell_keep c0 hSw; have q5 := cell_keep c5 hSw; have t0 := cell_keep d0 hSw; have t1 := cell_keep d1 hSw; have t2 := cell_keep d2 hSw; have t3 := cell_keep d3 hSw; have t4 := cell_keep d4 hSw; have t5 := cell_keep d5 hSw; have t6 := cell_keep d6 hSw; have t7 := cell_keep d7 hSw; have t8 := cell_keep d8 hSw; have t9 := cell_keep d9 hSw; have t10 := cell_keep d10 hSw; have t11 := cell_keep d11 hSw; go_simp <;> (try with_reducible rfl)⟩
      simp only [Act.put, List.setIfInBounds_toArray, List.set_cons_zero, List.set_cons_succ]
      refine' wpAnyH_take (i := 5) ?hi5_1 ?hs5_1 ?hf5_1 ?hr5_1 ?hQ5_1 ?hy5_1 (by assumption) ?rest5_1
      case hi5_1 => simp only [List.getElem?_toArray, List.getElem?_cons_succ, List.getElem?_cons_zero] <;> rfl
      case hs5_1 => kernel_rfl
      case hf5_1 => kernel_rfl
      case hr5_1 => kernel_rfl
      case hQ5_1 => exact fun _ _ _ h => h
      case hy5_1 => exact Or.inl ⟨by rfl, fun w hSw => by have q0 := cell_keep c0 hSw; have q5 := cell_keep c5 hSw; have t0 := cell_keep d0 hSw; have t1 := cell_keep d1 hSw; have t2 := cell_keep d2 hSw; have t3 := cell_keep d3 hSw; have t4 := cell_keep d4 hSw; have t5 := cell_keep d5 hSw; have t6 := cell_keep d6 hSw; have t7 := cell_keep d7 hSw; have t8 := cell_keep d8 hSw; have t9 := cell_keep d9 hSw; have t10 := cell_keep d10 hSw; have t11 := cell_keep d11 hSw; go_simp <;> (try with_reducible rfl)⟩
      simp only [Act.put, List.setIfInBounds_toArray, List.set_cons_zero, List.set_cons_succ]
      refine' wpAnyH_take (i := 6) ?hi6_1 ?hs6_1 ?hf6_1 ?hr6_1 ?hQ6_1 ?hy6_1 (by assumption) ?rest6_1
      case hi6_1 => simp only [List.getElem?_toArray, List.getElem?_cons_succ, List.getElem?_cons_zero] <;> rfl
      case hs6_1 => kernel_rfl
      case hf6_1 => kernel_rfl
      case hr6_1 => kernel_rfl
      case hQ6_1 => exact fun _ _ _ h => h
      case hy6_1 => exact Or.inl ⟨by rfl, fun w hSw => by have q0 := cell_keep c0 hSw; have q5 := cell_keep c5 hSw; have t0 := cell_keep d0 hSw; have t1 := cell_keep d1 hSw; have t2 := cell_keep d2 hSw; have t3 := cell_keep d3 hSw; have t4 := cell_keep d4 hSw; have t5 := cell_keep d5 hSw; have t6 := cell_keep d6 hSw; have t7 := cell_keep d7 hSw; have t8 := cell_keep d8 hSw; have t9 := cell_keep d9 hSw; have t10 := cell_keep d10 hSw; have t11 := cell_keep d11 hSw; go_simp <;> (try with_reducible rfl)⟩
      simp only [Act.put, List.setIfInBounds_toArray, List.set_cons_zero, List.set_cons_succ]
      refine' wpAnyH_take (i := 7) ?hi7_1 ?hs7_1 ?hf7_1 ?hr7_1 ?hQ7_1 ?hy7_1 (by assumption) ?rest7_1
      case hi7_1 => simp only [List.getElem?_toArray, List.getElem?_cons_succ, List.getElem?_cons_zero] <;> rfl
      case hs7_1 => kernel_rfl
      case hf7_1 => kernel_rfl
      case hr7_1 => kernel_rfl
      case hQ7_1 => exact fun _ _ _ h => h
      case hy7_1 => exact Or.inl ⟨by rfl, fun w hSw => by have q0 := cell_keep c0 hSw; have q5 := cell_keep c5 hSw; have t0 := cell_keep d0 hSw; have t1 := cell_keep d1 hSw; have t2 := cell_keep d2 hSw; have t3 := cell_keep d3 hSw; have t4 := cell_keep d4 hSw; have t5 := cell_keep d5 hSw; have t6 := cell_keep d6 hSw; have t7 := cell_keep d7 hSw; have t8 := cell_keep d8 hSw; have t9 := cell_keep d9 hSw; have t10 := cell_keep d10 hSw; have t11 := cell_keep d11 hSw; go_simp <;> (try with_reducible rfl)⟩
      simp only [Act.put, List.setIfInBounds_toArray, List.set_cons_zero, List.set_cons_succ]
      refine' wpAnyH_take (i := 8) ?hi8_1 ?hs8_1 ?hf8_1 ?hr8_1 ?hQ8_1 ?hy8_1 (by assumption) ?rest8_1
      case hi8_1 => simp only [List.getElem?_toArray, List.getElem?_cons_succ, List.getElem?_cons_zero] <;> rfl
      case hs8_1 => kernel_rfl
      case hf8_1 => kernel_rfl
      case hr8_1 => kernel_rfl
      case hQ8_1 => exact fun _ _ _ h => h
      case hy8_1 => exact Or.inl ⟨by rfl, fun w hSw => by have q0 := cell_keep c0 hSw; have q5 := cell_keep c5 hSw; have t0 := cell_keep d0 hSw; have t1 := cell_keep d1 hSw; have t2 := cell_keep d2 hSw; have t3 := cell_keep d3 hSw; have t4 := cell_keep d4 hSw; have t5 := cell_keep d5 hSw; have t6 := cell_keep d6 hSw; have t7 := cell_keep d7 hSw; have t8 := cell_keep d8 hSw; have t9 := cell_keep d9 hSw; have t10 := cell_keep d10 hSw; have t11 := cell_keep d11 hSw; go_simp <;> (try with_reducible rfl)⟩
      simp only [Act.put, List.setIfInBounds_toArray, List.set_cons_zero, List.set_cons_succ]
      refine' wpAnyH_take (i := 9) ?hi9_1 ?hs9_1 ?hf9_1 ?hr9_1 ?hQ9_1 ?hy9_1 (by assumption) ?rest9_1
      case hi9_1 => simp only [List.getElem?_toArray, List.getElem?_cons_succ, List.getElem?_cons_zero] <;> rfl
      case hs9_1 => kernel_rfl
      case hf9_1 => kernel_rfl
      case hr9_1 => kernel_rfl
      case hQ9_1 => exact fun _ _ _ h => h
      case hy9_1 => exact Or.inl ⟨by rfl, fun w hSw => by have q0 := cell_keep c0 hSw; have q5 := cell_keep c5 hSw; have t0 := cell_keep d0 hSw; have t1 := cell_keep d1 hSw; have t2 := cell_keep d2 hSw; have t3 := cell_keep d3 hSw; have t4 := cell_keep d4 hSw; have t5 := cell_keep d5 hSw; have t6 := cell_keep d6 hSw; have t7 := cell_keep d7 hSw; have t8 := cell_keep d8 hSw; have t9 := cell_keep d9 hSw; have t10 := cell_keep d10 hSw; have t11 := cell_keep d11 hSw; go_simp <;> (try with_reducible rfl)⟩
      simp only [Act.put, List.setIfInBounds_toArray, List.set_cons_zero, List.set_cons_succ]
      refine' wpAnyH_take (i := 10) ?hi10_1 ?hs10_1 ?hf10_1 ?hr10_1 ?hQ10_1 ?hy10_1 (by assumption) ?rest10_1
      case hi10_1 => simp only [List.getElem?_toArray, List.getElem?_cons_succ, List.getElem?_cons_zero] <;> rfl
      case hs10_1 => kernel_rfl
      case hf10_1 => kernel_rfl
      case hr10_1 => kernel_rfl
      case hQ10_1 => exact fun _ _ _ h => h
      case hy10_1 => exact Or.inl ⟨by rfl, fun w hSw => by have q0 := cell_keep c0 hSw; have q5 := cell_keep c5 hSw; have t0 := cell_keep d0 hSw; have t1 := cell_keep d1 hSw; have t2 := cell_keep d2 hSw; have t3 := cell_keep d3 hSw; have t4 := cell_keep d4 hSw; have t5 := cell_keep d5 hSw; have t6 := cell_keep d6 hSw; have t7 := cell_keep d7 hSw; have t8 := cell_keep d8 hSw; have t9 := cell_keep d9 hSw; have t10 := cell_keep d10 hSw; have t11 := cell_keep d11 hSw; go_simp <;> (try with_reducible rfl)⟩
      simp only [Act.put, List.setIfInBounds_toArray, List.set_cons_zero, List.set_cons_succ]
      refine' wpAnyH_take (i := 11) ?hi11_1 ?hs11_1 ?hf11_1 ?hr11_1 ?hQ11_1 ?hy11_1 (by assumption) ?rest11_1
      case hi11_1 => simp only [List.getElem?_toArray, List.getElem?_cons_succ, List.getElem?_cons_zero] <;> rfl
      case hs11_1 => kernel_rfl
      case hf11_1 => kernel_rfl
      case hr11_1 => kernel_rfl
      case hQ11_1 => exact fun _ _ _ h => h
      case hy11_1 => exact Or.inl ⟨by rfl, fun w hSw => by have q0 := cell_keep c0 hSw; have q5 := cell_keep c5 hSw; have t0 := cell_keep d0 hSw; have t1 := cell_keep d1 hSw; have t2 := cell_keep d2 hSw; have t3 := cell_keep d3 hSw; have t4 := cell_keep d4 hSw; have t5 := cell_keep d5 hSw; have t6 := cell_keep d6 hSw; have t7 := cell_keep d7 hSw; have t8 := cell_keep d8 hSw; have t9 := cell_keep d9 hSw; have t10 := cell_keep d10 hSw; have t11 := cell_keep d11 hSw; go_simp <;> (try with_reducible rfl)⟩
      simp only [Act.put, List.setIfInBounds_toArray, List.set_cons_zero, List.set_cons_succ]
      refine' wpAnyH_take (i := 12) ?hi12_1 ?hs12_1 ?hf12_1 ?hr12_1 ?hQ12_1 ?hy12_1 (by assumption) ?rest12_1
      case hi12_1 => simp only [List.getElem?_toArray, List.getElem?_cons_succ, List.getElem?_cons_zero] <;> rfl
      case hs12_1 => kernel_rfl
      case hf12_1 => kernel_rfl
      case hr12_1 => kernel_rfl
      case hQ12_1 => exact fun _ _ _ h => h
      case hy12_1 => exact Or.inl ⟨by rfl, fun w hSw => by have q0 := cell_keep c0 hSw; have q5 := cell_keep c5 hSw; have t0 := cell_keep d0 hSw; have t1 := cell_keep d1 hSw; have t2 := cell_keep d2 hSw; have t3 := cell_keep d3 hSw; have t4 := cell_keep d4 hSw; have t5 := cell_keep d5 hSw; have t6 := cell_keep d6 hSw; have t7 := cell_keep d7 hSw; have t8 := cell_keep d8 hSw; have t9 := cell_keep d9 hSw; have t10 := cell_keep d10 hSw; have t11 := cell_keep d11 hSw; go_simp <;> (try with_reducible rfl)⟩
      simp only [Act.put, List.setIfInBounds_toArray, List.set_cons_zero, List.set_cons_succ]
      refine' wpAnyH_take (i := 13) ?hi13_1 ?hs13_1 ?hf13_1 ?hr13_1 ?hQ13_1 ?hy13_1 (by assumption) ?rest13_1
      case hi13_1 => simp only [List.getElem?_toArray, List.getElem?_cons_succ, List.getElem?_cons_zero] <;> rfl
      case hs13_1 => kernel_rfl
      case hf13_1 => kernel_rfl
      case hr13_1 => kernel_rfl
      case hQ13_1 => exact fun _ _ _ h => h
      case hy13_1 => exact Or.inl ⟨by rfl, fun w hSw => by have q0 := cell_keep c0 hSw; have q5 := cell_keep c5 hSw; have t0 := cell_keep d0 hSw; have t1 := cell_keep d1 hSw; have t2 := cell_keep d2 hSw; have t3 := cell_keep d3 hSw; have t4 := cell_keep d4 hSw; have t5 := cell_keep d5 hSw; have t6 := cell_keep d6 hSw; have t7 := cell_keep d7 hSw; have t8 := cell_keep d8 hSw; have t9 := cell_keep d9 hSw; have t10 := cell_keep d10 hSw; have t11 := cell_keep d11 hSw; go_simp <;> (try with_reducible rfl)⟩
      simp only [Act.put, List.setIfInBounds_toArray, List.set_cons_zero, List.set_cons_succ]
      refine' wpAnyH_take (i := 14) ?hi14_1 ?hs14_1 ?hf14_1 ?hr14_1 ?hQ14_1 ?hy14_1 (by assumption) ?rest14_1
      case hi14_1 => simp only [List.getElem?_toArray, List.getElem?_cons_succ, List.getElem?_cons_zero] <;> rfl
      case hs14_1 => kernel_rfl
      case hf14_1 => kernel_rfl
      case hr14_1 => kernel_rfl
      case hQ14_1 => exact fun _ _ _ h => h
      case hy14_1 => exact Or.inl ⟨by rfl, fun w hSw => by have q0 := cell_keep c0 hSw; have q5 := cell_keep c5 hSw; have t0 := cell_keep d0 hSw; have t1 := cell_keep d1 hSw; have t2 := cell_keep d2 hSw; have t3 := cell_keep d3 hSw; have t4 := cell_keep d4 hSw; have t5 := cell_keep d5 hSw; have t6 := cell_keep d6 hSw; have t7 := cell_keep d7 hSw; have t8 := cell_keep d8 hSw; have t9 := cell_keep d9 hSw; have t10 := cell_keep d10 hSw; have t11 := cell_keep d11 hSw; go_simp <;> (try with_reducible rfl)⟩
      simp only [Act.put, List.setIfInBounds_toArray, List.set_cons_zero, List.set_cons_succ]
      refine' wpAnyH_take (i := 15) ?hi15_1 ?hs15_1 ?hf15_1 ?hr15_1 ?hQ15_1 ?hy15_1 (by assumption) ?rest15_1
      case hi15_1 => simp only [List.getElem?_toArray, List.getElem?_cons_succ, List.getElem?_cons_zero] <;> rfl
      case hs15_1 => kernel_rfl
      case hf15_1 => kernel_rfl
      case hr15_1 => kernel_rfl
      case hQ15_1 => exact fun _ _ _ h => h
      case hy15_1 => exact Or.inl ⟨by rfl, fun w hSw => by have q0 := cell_keep c0 hSw; have q5 := cell_keep c5 hSw; have t0 := cell_keep d0 hSw; have t1 := cell_keep d1 hSw; have t2 := cell_keep d2 hSw; have t3 := cell_keep d3 hSw; have t4 := cell_keep d4 hSw; have t5 := cell_keep d5 hSw; have t6 := cell_keep d6 hSw; have t7 := cell_keep d7 hSw; have t8 := cell_keep d8 hSw; have t9 := cell_keep d9 hSw; have t10 := cell_keep d10 hSw; have t11 := cell_keep d11 hSw; go_simp <;> (try with_reducible rfl)⟩
      simp only [Act.put, List.setIfInBounds_toArray, List.set_cons_zero, List.set_cons_succ]
      refine' wpAnyH_take (i := 16) ?hi16_1 ?hs16_1 ?hf16_1 ?hr16_1 ?hQ16_1 ?hy16_1 (by assumption) ?rest16_1
      case hi16_1 => simp only [List.getElem?_toArray, List.getElem?_cons_succ, List.getElem?_cons_zero] <;> rfl
      case hs16_1 => kernel_rfl
      case hf16_1 => kernel_rfl
      case hr16_1 => kernel_rfl
      case hQ16_1 => exact fun _ _ _ h => h
      case hy16_1 => exact Or.inl ⟨by rfl, fun w hSw => by have q0 := cell_keep c0 hSw; have q5 := cell_keep c5 hSw; have t0 := cell_keep d0 hSw; have t1 := cell_keep d1 hSw; have t2 := cell_keep d2 hSw; have t3 := cell_keep d3 hSw; have t4 := cell_keep d4 hSw; have t5 := cell_keep d5 hSw; have t6 := cell_keep d6 hSw; have t7 := cell_keep d7 hSw; have t8 := cell_keep d8 hSw; have t9 := cell_keep d9 hSw; have t10 := cell_keep d10 hSw; have t11 := cell_keep d11 hSw; go_simp <;> (try with_reducible rfl)⟩
      simp only [Act.put, List.setIfInBounds_toArray, List.set_cons_zero, List.set_cons_succ]
      refine' wpAnyH_take (i := 17) ?hi17_1 ?hs17_1 ?hf17_1 ?hr17_1 ?hQ17_1 ?hy17_1 (by assumption) ?rest17_1
      case hi17_1 => simp only [List.getElem?_toArray, List.getElem?_cons_succ, List.getElem?_cons_zero] <;> rfl
      case hs17_1 => kernel_rfl
      case hf17_1 => kernel_rfl
      case hr17_1 => kernel_rfl
      case hQ17_1 => exact fun _ _ _ h => h
      case hy17_1 => exact Or.inl ⟨by rfl, fun w hSw => by have q0 := cell_keep c0 hSw; have q5 := cell_keep c5 hSw; have t0 := cell_keep d0 hSw; have t1 := cell_keep d1 hSw; have t2 := cell_keep d2 hSw; have t3 := cell_keep d3 hSw; have t4 := cell_keep d4 hSw; have t5 := cell_keep d5 hSw; have t6 := cell_keep d6 hSw; have t7 := cell_keep d7 hSw; have t8 := cell_keep d8 hSw; have t9 := cell_keep d9 hSw; have t10 := cell_keep d10 hSw; have t11 := cell_keep d11 hSw; go_simp <;> (try with_reducible rfl)⟩
      simp only [Act.put, List.setIfInBounds_toArray, List.set_cons_zero, List.set_cons_succ]
      refine' wpAnyH_take (i := 18) ?hi18_1 ?hs18_1 ?hf18_1 ?hr18_1 ?hQ18_1 ?hy18_1 (by assumption) ?rest18_1
      case hi18_1 => simp only [List.getElem?_toArray, List.getElem?_cons_succ, List.getElem?_cons_zero] <;> rfl
      case hs18_1 => kernel_rfl
      case hf18_1 => kernel_rfl
      case hr18_1 => kernel_rfl
      case hQ18_1 => exact fun _ _ _ h => h
      case hy18_1 => exact Or.inl ⟨by rfl, fun w hSw => by have q0 := cell_keep c0 hSw; have q5 := cell_keep c5 hSw; have t0 := cell_keep d0 hSw; have t1 := cell_keep d1 hSw; have t2 := cell_keep d2 hSw; have t3 := cell_keep d3 hSw; have t4 := cell_keep d4 hSw; have t5 := cell_keep d5 hSw; have t6 := cell_keep d6 hSw; have t7 := cell_keep d7 hSw; have t8 := cell_keep d8 hSw; have t9 := cell_keep d9 hSw; have t10 := cell_keep d10 hSw; have t11 := cell_keep d11 hSw; go_simp <;> (try with_reducible rfl)⟩
      simp only [Act.put, List.setIfInBounds_toArray, List.set_cons_zero, List.set_cons_succ]
      refine' wpAnyH_take (i := 20) ?hi20_1 ?hs20_1 ?hf20_1 ?hr20_1 ?hQ20_1 ?hy20_1 (by assumption) ?rest20_1
      case hi20_1 => simp only [List.getElem?_toArray, List.getElem?_cons_succ, List.getElem?_cons_zero] <;> rfl
      case hs20_1 => kernel_rfl
      case hf20_1 => kernel_rfl
      case hr20_1 => kernel_rfl
      case hQ20_1 => exact fun _ _ _ h => h
      case hy20_1 => exact Or.inl ⟨by rfl, fun w hSw => by have q0 := cell_keep c0 hSw; have q5 := cell_keep c5 hSw; have t0 := cell_keep d0 hSw; have t1 := cell_keep d1 hSw; have t2 := cell_keep d2 hSw; have t3 := cell_keep d3 hSw; have t4 := cell_keep d4 hSw; have t5 := cell_keep d5 hSw; have t6 := cell_keep d6 hSw; have t7 := cell_keep d7 hSw; have t8 := cell_keep d8 hSw; have t9 := cell_keep d9 hSw; have t10 := cell_keep d10 hSw; have t11 := cell_keep d11 hSw; go_simp <;> (try with_reducible rfl)⟩
      simp only [Act.put, List.setIfInBounds_toArray, List.set_cons_zero, List.set_cons_succ]
      refine' wpAnyH_take (i := 21) ?hi21_1 ?hs21_1 ?hf21_1 ?hr21_1 ?hQ21_1 ?hy21_1 (by assumption) ?rest21_1
      case hi21_1 => simp only [List.getElem?_toArray, List.getElem?_cons_succ, List.getElem?_cons_zero] <;> rfl
      case hs21_1 => kernel_rfl
      case hf21_1 => kernel_rfl
      case hr21_1 => kernel_rfl
      case hQ21_1 => exact fun _ _ _ h => h
      case hy21_1 => exact Or.inl ⟨by rfl, fun w hSw => by have q0 := cell_keep c0 hSw; have q5 := cell_keep c5 hSw; have t0 := cell_keep d0 hSw; have t1 := cell_keep d1 hSw; have t2 := cell_keep d2 hSw; have t3 := cell_keep d3 hSw; have t4 := cell_keep d4 hSw; have t5 := cell_keep d5 hSw; have t6 := cell_keep d6 hSw; have t7 := cell_keep d7 hSw; have t8 := cell_keep d8 hSw; have t9 := cell_keep d9 hSw; have t10 := cell_keep d10 hSw; have t11 := cell_keep d11 hSw; go_simp <;> (try with_reducible rfl)⟩
      simp only [Act.put, List.setIfInBounds_toArray, List.set_cons_zero, List.set_cons_succ]
      refine wpAnyH_ready (rs := [0, 23]) (by kernel_rfl) (by simp) ?_
      refine (AllReadyH.cons rfl (fun K hK => ?_) (AllReadyH.cons rfl (fun K hK => ?_) AllReadyH.nil))
      · go_simp
        with_reducible refine Calls.mono (HMn.out _) ?_
        rintro e w5 ⟨ba, bw, rfl, hA5, hba, hbw, k5⟩
        go_wp2_with fail
        have hHeld5 := Keeps.trans hHeld k5
        have hal := hA5.lt1
        have hbl := hA5.lt2
        refine hK.out _ _ hHeld5 (fun hHeld => ?_)
        clear hK K
        have hba : w4.heap.size ≤ ba := hba
        have hbw : w4.heap.size ≤ bw := hbw
        refine wpAnyH_ready (rs := [19, 23]) (by kernel_rfl) (by simp) ?_
        refine (AllReadyH.cons rfl (fun K hK => ?_) (AllReadyH.cons rfl (fun K hK => ?_) AllReadyH.nil))
        · go_simp
          with_reducible refine Calls.mono (HCn.out _) ?_
          rintro e w6 ⟨tb, mb, vb, rfl, hC6, ⟨hc1, hc2, hc3⟩, k6⟩
          go_wp2_with fail
          have hHeld6 := Keeps.trans hHeld5 k6
          have hcl := hC6.lt
          have zz6 := k6.size
          refine hK.out _ _ hHeld6 (fun hHeld => ?_)
          clear hK K
          refine' wpAnyH_take (i := 22) ?hi22_2 ?hs22_2 ?hf22_2 ?hr22_2 ?hQ22_2 ?hy22_2 (by assumption) ?rest22_2
          case hi22_2 => simp only [List.getElem?_toArray, List.getElem?_cons_succ, List.getElem?_cons_zero] <;> rfl
          case hs22_2 => kernel_rfl
          case hf22_2 => kernel_rfl
          case hr22_2 => kernel_rfl
          case hQ22_2 => exact fun _ _ _ h => h
          case hy22_2 => exact Or.inl ⟨by rfl, fun w hSw => by go_simp <;> (try with_reducible rfl)⟩
          simp only [Act.put, List.setIfInBounds_toArray, List.set_cons_zero, List.set_cons_succ]
          refine wpAnyH_ready (rs := [23]) (by kernel_rfl) (by simp) ?_
          refine (AllReadyH.cons rfl (fun K hK => ?_) AllReadyH.nil)
          go_simp
          have ka : Keeps w6 ((w6).alloc (.cells (#[.pointer none, .pointer none, .pointer none, .pointer none, .int .i64 0, .int .i64 0, .int .i64 0, .int .i64 0, .int .i64 0, .int .i64 0, .int .i64 0, .int .i64 0, .int .i64 0, .int .i64 0, .int .i64 0, .int .i64 0, .int .i64 0, .slice none 0 0, .slice none 0 0, .pointer none, .slice none 0 0]) 42)) := (Touch.refl _ _).alloc _
          have hHa := Keeps.trans hHeld6 ka
          have B0 : BL ((w6).alloc (.cells (#[.pointer none, .pointer none, .pointer none, .pointer none, .int .i64 0, .int .i64 0, .int .i64 0, .int .i64 0, .int .i64 0, .int .i64 0, .int .i64 0, .int .i64 0, .int .i64 0, .int .i64 0, .int .i64 0, .int .i64 0, .int .i64 0, .slice none 0 0, .slice none 0 0, .pointer none, .slice none 0 0]) 42)) w6.heap.size 42 [.pointer none, .pointer none, .pointer none, .pointer none, .int .i64 0, .int .i64 0, .int .i64 0, .int .i64 0, .int .i64 0, .int .i64 0, .int .i64 0, .int .i64 0, .int .i64 0, .int .i64 0, .int .i64 0, .int .i64 0, .int .i64 0, .slice none 0 0, .slice none 0 0, .pointer none, .slice none 0 0] := BL.new1 _ 42 _ [.pointer none, .pointer none, .pointer none, .pointer none, .int .i64 0, .int .i64 0, .int .i64 0, .int .i64 0, .int .i64 0, .int .i64 0, .int .i64 0, .int .i64 0, .int .i64 0, .int .i64 0, .int .i64 0, .int .i64 0, .int .i64 0, .slice none 0 0, .slice none 0 0, .pointer none, .slice none 0 0] _ rfl rfl
          refine hK.out _ _ hHa (fun hHeld => ?_)
          clear hK K
          have hx4 := hHeld6.size
          refine wpAnyH_ready (rs := [24]) (by kernel_rfl) (by simp) ?_
          refine (AllReadyH.cons rfl (fun K hK => ?_) AllReadyH.nil)
          rw [if_pos (show Region.wanted _ _ = true from rfl)]
          refine A5.wp_store_bl 42 (.tmp 9) (.tmp 101) rfl B0 rfl [.pointer (some ⟨ba, 0, none⟩), .pointer (some ⟨bt, 0, none⟩), .pointer none, .pointer none, .int .i64 (Y 0).f, .int .i64 (Y 0).t, .int .i64 (Y 0).e, .int .i64 (Y 1).f, .int .i64 (Y 1).t, .int .i64 (Y 1).e, .int .i64 (Y 2).f, .int .i64 (Y 2).t, .int .i64 (Y 2).e, .int .i64 (Y 3).f, .int .i64 (Y 3).t, .int .i64 (Y 3).e, .int .i64 x1, .slice none 0 0, .slice none 0 0, .pointer (some ⟨tb, 0, none⟩), .slice Ac m cc] (by first | rfl | kernel_rfl) sz_life rfl rfl ?_
          intro X BX kX
          have hX := Touch.new hHa kX (show w4.heap.size ≤ w6.heap.size by omega)
          refine hK.out _ _ hX (fun hHeld => ?_)
          clear hK K
          simp only [Act.put, List.setIfInBounds_toArray, List.set_cons_zero, List.set_cons_succ]
          refine wpAnyH_done (by kernel_rfl) ?_ _
          refine NoPanic.normal ?_
          go_wp2_with fail
          go_meet
          exact ⟨w6.heap.size, ba, bw, tb, mb, vb, rfl, BX, (((hA5.keep k6).keep ka).touch kX (show ¬ ba = w6.heap.size by omega) (show ¬ bw = w6.heap.size by omega)), ((hC6.keep ka).touch kX (show ¬ tb = w6.heap.size by omega) (show ¬ mb = w6.heap.size by omega) (show ¬ vb = w6.heap.size by omega)), ⟨by omega, by omega, by omega, by omega, by omega, by omega⟩, ⟨by omega, by omega, by omega, by omega, by omega⟩, ⟨by omega, by omega, by omega, by omega, by omega, by omega⟩, hX⟩
        · go_simp
          have ka : Keeps w5 ((w5).alloc (.cells (#[.pointer none, .pointer none, .pointer none, .pointer none, .int .i64 0, .int .i64 0, .int .i64 0, .int .i64 0, .int .i64 0, .int .i64 0, .int .i64 0, .int .i64 0, .int .i64 0, .int .i64 0, .int .i64 0, .int .i64 0, .int .i64 0, .slice none 0 0, .slice none 0 0, .pointer none, .slice none 0 0]) 42)) := (Touch.refl _ _).alloc _
          have hHa := Keeps.trans hHeld5 ka
          have B0 : BL ((w5).alloc (.cells (#[.pointer none, .pointer none, .pointer none, .pointer none, .int .i64 0, .int .i64 0, .int .i64 0, .int .i64 0, .int .i64 0, .int .i64 0, .int .i64 0, .int .i64 0, .int .i64 0, .int .i64 0, .int .i64 0, .int .i64 0, .int .i64 0, .slice none 0 0, .slice none 0 0, .pointer none, .slice none 0 0]) 42)) w5.heap.size 42 [.pointer none, .pointer none, .pointer none, .pointer none, .int .i64 0, .int .i64 0, .int .i64 0, .int .i64 0, .int .i64 0, .int .i64 0, .int .i64 0, .int .i64 0, .int .i64 0, .int .i64 0, .int .i64 0, .int .i64 0, .int .i64 0, .slice none 0 0, .slice none 0 0, .pointer none, .slice none 0 0] := BL.new1 _ 42 _ [.pointer none, .pointer none, .pointer none, .pointer none, .int .i64 0, .int .i64 0, .int .i64 0, .int .i64 0, .int .i64 0, .int .i64 0, .int .i64 0, .int .i64 0, .int .i64 0, .int .i64 0, .int .i64 0, .int .i64 0, .int .i64 0, .slice none 0 0, .slice none 0 0, .pointer none, .slice none 0 0] _ rfl rfl
          refine hK.out _ _ hHa (fun hHeld => ?_)
          clear hK K
          have hx4 := hHeld5.size
          refine wpAnyH_ready (rs := [19]) (by kernel_rfl) (by simp) ?_
          refine (AllReadyH.cons rfl (fun K hK => ?_) AllReadyH.nil)
          go_simp
          with_reducible refine Calls.mono (HCn.out _) ?_
          rintro e w6 ⟨tb, mb, vb, rfl, hC6, ⟨hc1, hc2, hc3⟩, k6⟩
          go_wp2_with fail
          have hHeld6 := Keeps.trans hHa k6
          have hcl := hC6.lt
          have zz6 := k6.size
          refine hK.out _ _ hHeld6 (fun hHeld => ?_)
          clear hK K
          simp only [World.size_alloc] at hc1 hc2 hc3 zz6
          refine' wpAnyH_take (i := 22) ?hi22_3 ?hs22_3 ?hf22_3 ?hr22_3 ?hQ22_3 ?hy22_3 (by assumption) ?rest22_3
          case hi22_3 => simp only [List.getElem?_toArray, List.getElem?_cons_succ, List.getElem?_cons_zero] <;> rfl
          case hs22_3 => kernel_rfl
          case hf22_3 => kernel_rfl
          case hr22_3 => kernel_rfl
          case hQ22_3 => exact fun _ _ _ h => h
          case hy22_3 => exact Or.inl ⟨by rfl, fun w hSw => by go_simp <;> (try with_reducible rfl)⟩
          simp only [Act.put, List.setIfInBounds_toArray, List.set_cons_zero, List.set_cons_succ]
          refine wpAnyH_ready (rs := [24]) (by kernel_rfl) (by simp) ?_
          refine (AllReadyH.cons rfl (fun K hK => ?_) AllReadyH.nil)
          rw [if_pos (show Region.wanted _ _ = true from rfl)]
          refine A5.wp_store_bl 42 (.tmp 9) (.tmp 101) rfl (BL.keep B0 k6) rfl [.pointer (some ⟨ba, 0, none⟩), .pointer (some ⟨bt, 0, none⟩), .pointer none, .pointer none, .int .i64 (Y 0).f, .int .i64 (Y 0).t, .int .i64 (Y 0).e, .int .i64 (Y 1).f, .int .i64 (Y 1).t, .int .i64 (Y 1).e, .int .i64 (Y 2).f, .int .i64 (Y 2).t, .int .i64 (Y 2).e, .int .i64 (Y 3).f, .int .i64 (Y 3).t, .int .i64 (Y 3).e, .int .i64 x1, .slice none 0 0, .slice none 0 0, .pointer (some ⟨tb, 0, none⟩), .slice Ac m cc] (by first | rfl | kernel_rfl) sz_life rfl rfl ?_
          intro X BX kX
          have hX := Touch.new hHeld6 kX (show w4.heap.size ≤ w5.heap.size by omega)
          refine hK.out _ _ hX (fun hHeld => ?_)
          clear hK K
          simp only [Act.put, List.setIfInBounds_toArray, List.set_cons_zero, List.set_cons_succ]
          refine wpAnyH_done (by kernel_rfl) ?_ _
          refine NoPanic.normal ?_
          go_wp2_with fail
          go_meet
          exact ⟨w5.heap.size, ba, bw, tb, mb, vb, rfl, BX, (((hA5.keep ka).keep k6).touch kX (show ¬ ba = w5.heap.size by omega) (show ¬ bw = w5.heap.size by omega)), (hC6.touch kX (show ¬ tb = w5.heap.size by omega) (show ¬ mb = w5.heap.size by omega) (show ¬ vb = w5.heap.size by omega)), ⟨by omega, by omega, by omega, by omega, by omega, by omega⟩, ⟨by omega, by omega, by omega, by omega, by omega⟩, ⟨by omega, by omega, by omega, by omega, by omega, by omega⟩, hX⟩
      · have hd := hHeld
        go_simp
        have ka : Keeps w4.drew ((w4.drew).alloc (.cells (#[.pointer none, .pointer none, .pointer none, .pointer none, .int .i64 0, .int .i64 0, .int .i64 0, .int .i64 0, .int .i64 0, .int .i64 0, .int .i64 0, .int .i64 0, .int .i64 0, .int .i64 0, .int .i64 0, .int .i64 0, .int .i64 0, .slice none 0 0, .slice none 0 0, .pointer none, .slice none 0 0]) 42)) := (Touch.refl _ _).alloc _
        have hHa := Keeps.trans hd ka
        have B0 : BL ((w4.drew).alloc (.cells (#[.pointer none, .pointer none, .pointer none, .pointer none, .int .i64 0, .int .i64 0, .int .i64 0, .int .i64 0, .int .i64 0, .int .i64 0, .int .i64 0, .int .i64 0, .int .i64 0, .int .i64 0, .int .i64 0, .int .i64 0, .int .i64 0, .slice none 0 0, .slice none 0 0, .pointer none, .slice none 0 0]) 42)) w4.heap.size 42 [.pointer none, .pointer none, .pointer none, .pointer none, .int .i64 0, .int .i64 0, .int .i64 0, .int .i64 0, .int .i64 0, .int .i64 0, .int .i64 0, .int .i64 0, .int .i64 0, .int .i64 0, .int .i64 0, .int .i64 0, .int .i64 0, .slice none 0 0, .slice none 0 0, .pointer none, .slice none 0 0] := BL.new1 _ 42 _ [.pointer none, .pointer none, .pointer none, .pointer none, .int .i64 0, .int .i64 0, .int .i64 0, .int .i64 0, .int .i64 0, .int .i64 0, .int .i64 0, .int .i64 0, .int .i64 0, .int .i64 0, .int .i64 0, .int .i64 0, .int .i64 0, .slice none 0 0, .slice none 0 0, .pointer none, .slice none 0 0] _ rfl rfl
        refine hK.out _ _ hHa (fun hHeld => ?_)
        clear hK K
        refine wpAnyH_ready (rs := [0]) (by kernel_rfl) (by simp) ?_
        refine (AllReadyH.cons rfl (fun K hK => ?_) AllReadyH.nil)
        go_simp
        with_reducible refine Calls.mono (HMn.out _) ?_
        rintro e w5 ⟨ba, bw, rfl, hA5, hba, hbw, k5⟩
        go_wp2_with fail
        have hHeld5 := Keeps.trans hHa k5
        have hal := hA5.lt1
        have hbl := hA5.lt2
        refine hK.out _ _ hHeld5 (fun hHeld => ?_)
        clear hK K
        simp only [World.size_alloc, World.size_drew] at hba hbw
        refine wpAnyH_ready (rs := [19]) (by kernel_rfl) (by simp) ?_
        refine (AllReadyH.cons rfl (fun K hK => ?_) AllReadyH.nil)
        go_simp
        with_reducible refine Calls.mono (HCn.out _) ?_
        rintro e w6 ⟨tb, mb, vb, rfl, hC6, ⟨hc1, hc2, hc3⟩, k6⟩
        go_wp2_with fail
        have hHeld6 := Keeps.trans hHeld5 k6
        have hcl := hC6.lt
        have zz6 := k6.size
        refine hK.out _ _ hHeld6 (fun hHeld => ?_)
        clear hK K
        refine' wpAnyH_take (i := 22) ?hi22_4 ?hs22_4 ?hf22_4 ?hr22_4 ?hQ22_4 ?hy22_4 (by assumption) ?rest22_4
        case hi22_4 => simp only [List.getElem?_toArray, List.getElem?_cons_succ, List.getElem?_cons_zero] <;> rfl
        case hs22_4 => kernel_rfl
        case hf22_4 => kernel_rfl
        case hr22_4 => kernel_rfl
        case hQ22_4 => exact fun _ _ _ h => h
        case hy22_4 => exact Or.inl ⟨by rfl, fun w hSw => by go_simp <;> (try with_reducible rfl)⟩
        simp only [Act.put, List.setIfInBounds_toArray, List.set_cons_zero, List.set_cons_succ]
        have hx4 := Nat.le_refl w4.heap.size
        have zk5 := k5.size
        simp only [World.size_alloc, World.size_drew] at zk5
        refine wpAnyH_ready (rs := [24]) (by kernel_rfl) (by simp) ?_
        refine (AllReadyH.cons rfl (fun K hK => ?_) AllReadyH.nil)
        rw [if_pos (show Region.wanted _ _ = true from rfl)]
        refine A5.wp_store_bl 42 (.tmp 9) (.tmp 101) rfl (BL.keep (BL.keep B0 k5) k6) rfl [.pointer (some ⟨ba, 0, none⟩), .pointer (some ⟨bt, 0, none⟩), .pointer none, .pointer none, .int .i64 (Y 0).f, .int .i64 (Y 0).t, .int .i64 (Y 0).e, .int .i64 (Y 1).f, .int .i64 (Y 1).t, .int .i64 (Y 1).e, .int .i64 (Y 2).f, .int .i64 (Y 2).t, .int .i64 (Y 2).e, .int .i64 (Y 3).f, .int .i64 (Y 3).t, .int .i64 (Y 3).e, .int .i64 x1, .slice none 0 0, .slice none 0 0, .pointer (some ⟨tb, 0, none⟩), .slice Ac m cc] (by first | rfl | kernel_rfl) sz_life rfl rfl ?_
        intro X BX kX
        have hX := Touch.new hHeld6 kX (show w4.heap.size ≤ w4.heap.size by omega)
        refine hK.out _ _ hX (fun hHeld => ?_)
        clear hK K
        simp only [Act.put, List.setIfInBounds_toArray, List.set_cons_zero, List.set_cons_succ]
        refine wpAnyH_done (by kernel_rfl) ?_ _
        refine NoPanic.normal ?_
        go_wp2_with fail
        go_meet
        exact ⟨w4.heap.size, ba, bw, tb, mb, vb, rfl, BX, ((hA5.keep k6).touch kX (show ¬ ba = w4.heap.size by omega) (show ¬ bw = w4.heap.size by omega)), (hC6.touch kX (show ¬ tb = w4.heap.size by omega) (show ¬ mb = w4.heap.size by omega) (show ¬ vb = w4.heap.size by omega)), ⟨by omega, by omega, by omega, by omega, by omega, by omega⟩, ⟨by omega, by omega, by omega, by omega, by omega⟩, ⟨by omega, by omega, by omega, by omega, by omega, by omega⟩, hX⟩
    case rest =>
    obtain ⟨w5, rfl⟩ : ∃ w5 : World, w5 = wc := ⟨_, rfl⟩
    obtain ⟨xb, ba, bw, tb, mb, vb, rfl, B5, hA5, hC5, hq1, hq2, hq3, k5⟩ := hcut
    have K5 := Keeps.trans K4 k5
    have BW5 := BW4.keep k5
    have BR5 := BR4.keep k5
    have z5 := k5.size
    have HTb5 := Lib.hid (HTb4.out.keep k5)
    have HA5 := Lib.hid hA5
    have HC5 := Lib.hid hC5
    have hxl := B5.lt
    have hal := hA5.lt1
    have hbwl := hA5.lt2
    have hcl5 := hC5.lt
    have hcn5 := hC5.n2
    have l0 := B5.c 0 _ rfl
    have HOn := Lib.hid (on_any (some ⟨ba, 0, none⟩) (some ⟨bt, 0, none⟩))
    clear hA5 hC5 k5 HTb4 c0 c5 BW4 BR4 d0 d1 d2 d3 d4 d5 d6 d7 d8 d9 d10 d11 HMn HCn
    go_wp2_with fail
    refine Calls.mono (HOn.out _) ?_
    clear HOn
    rintro e w6 ⟨rfl, k6⟩
    have B6 := B5.keep k6
    have z6 := k6.size
    have K6 := Keeps.trans K5 k6
    have BW6 := BW5.keep k6
    have BR6 := BR5.keep k6
    have l2 := B6.c 2 _ rfl
    have l3 := B6.c 3 _ rfl
    have fz2 := B6.fz 2
    have fz3 := B6.fz 3
    have c1 : w6.cell? ⟨w.heap.size, 1, none⟩ = some (.slice Th nt tc) := BW6.c 1 _ rfl
    have lw6 := BW6.lt
    have hx6 := B6.lt
    have nWX : w.heap.size ≠ xb := by omega
    clear B5 BW5 BR5 l0
    go_wp2_with fail
    refine named_code (fun w7 hW7 => ?_)
    obtain ⟨base, hbase⟩ : ∃ base, base = w6.heap.size := ⟨_, rfl⟩
    have o7 : Only xb w6 w7 := by rw [hW7]; exact Touch.set (Touch.set (Only.refl xb w6) 2 _) 3 _
    have B7 : BL w7 xb 42 (lfV ba bt ((Lw.start x0).sp (beg15 x0) (end15 x0)) x1 (.slice none 0 0) (.slice none 0 0) (.pointer (some ⟨tb, 0, none⟩)) Ac m cc) := by rw [hW7, ← HY.out]; exact BL.set (BL.set B6 2 (.pointer (some ⟨ba, 0, none⟩))) 3 (.pointer (some ⟨bt, 0, none⟩))
    have z7 : w7.heap.size = w6.heap.size := by rw [hW7]; simp
    clear hW7 l2 l3 fz2 fz3 c1
    have BW7 := BW6.touch o7 (show ¬ w.heap.size = xb from nWX)
    have BR7 := BR6.touch o7 (show ¬ w.heap.size + 1 = xb by omega)
    have K7 := K6.new o7 (by omega)
    have hC : ∀ j, j < m → (C j).ok := fun j hj => rgB_ok (HC.out j hj)
    have hm0 : 0 < m := by omega
    have HP := Lib.hid (show Pl15 w xb ba bw bt tb mb vb A base from ⟨⟨by omega, by omega, by omega, by omega, by omega, by omega, by omega⟩, ⟨by omega, by omega, by omega, by omega, by omega, by omega, by omega⟩, ⟨by omega, by omega, by omega, by omega, by omega, by omega⟩, ⟨by omega, by omega, by omega, by omega⟩, ⟨by omega, by omega, by omega⟩, fun b off e => by have := HAb.out b off e; omega⟩)
    have hSt7 : St w7 ba bw 1000 (fun _ => 0) bt A m cap C := ⟨(HA5.out.keep k6).touch o7 (show ¬ ba = xb by omega) (show ¬ bw = xb by omega), (HTb5.out.keep k6).touch o7 (show ¬ bt = xb by omega) (fun b off e h => by have := (HAb.out b off e).2; omega), by omega, fun b off e => by have := (HAb.out b off e).2; omega⟩
    have hS7 : LS15 w w7 (worldV Ac m cc Th nt tc Rf nr rc Ro nz zc s0 s1) xb ba bw bt A m cap C (beg15 x0) (end15 x0) x1 (.slice none 0 0) (.slice none 0 0) tb mb vb Ac cc (Lw.start x0) (fun _ => false) base := ⟨hSt7, B7, OwnInts.nil_ _ _, (HC5.out.keep k6).touch o7 (show ¬ tb = xb by omega) (show ¬ mb = xb by omega) (show ¬ vb = xb by omega), BW7, BR7, K7, by omega⟩
    have HS7 := Lib.hid hS7
    have HOk := Lib.hid (show ∀ i, i ≤ nt → LwOk 1000 m C (beg15 x0) (end15 x0) (layN C m x0 T i) from LwOk.layN_le hC hm0 (by omega) b0 (fun i hi => (HA.out.thok i hi).2.2.2))
    have HCk := Lib.hid hC
    have hps := HP.out.hi
    have hpl := HP.out.lo
    clear hSt7 hS7 HTb5 HA5 HC5 B6 B7 BW6 BR6 BW7 BR7 K7 o7 k6 HY hC
    have hpx := HP.out.nx
    clear hq1 hq2 hq3 hcn5
    go_wp2_with fail
    go_loopw [110] (fun i wr => ∃ (j : Nat) (av : Value), j ≤ nt ∧ i = .int .i64 j ∧ LS15 w wr (worldV Ac m cc Th nt tc Rf nr rc Ro nz zc s0 s1) xb ba bw bt A m cap C (beg15 x0) (end15 x0) x1 av (.slice none 0 0) tb mb vb Ac cc (layN C m x0 T j) (fun _ => false) base) (fun i _ => nt - (intOf i).toNat)
    case atStart => exact ⟨0, .slice none 0 0, by omega, rfl, HS7.out⟩
    case round =>
      clear HS7
      obtain ⟨wo, rfl⟩ : ∃ wo : World, wo = wr := ⟨_, rfl⟩
      obtain ⟨j, av, hj, rfl, hS⟩ := hrel
      have HS := Lib.hid hS
      have hla := layN_len (m := m) (C := C) (half := x0) (T := T) j
      have c1 : wo.cell? ⟨w.heap.size, 1, none⟩ = some (.slice Th nt tc) := hS.bx.c 1 _ rfl
      have K := hS.k
      have zo := hS.z
      clear hS
      by_cases hlt : j < nt
      · have hm0' : 0 < m := hm0
        obtain ⟨hb, to_, hthe, hcells⟩ := (HA.out.ths.keep K).at_ (k := j) hlt (by omega)
        have HK := Lib.hid (show ∀ q, q < 4 → (j * 4 + q) / 4 = j ∧ (j * 4 + q) % 4 = q from fun q hq => ⟨by omega, by omega⟩)
        have d0 : wo.cell? ⟨hb, to_ + j * 4, none⟩ = some (.int .u8 (T j).cl) := by have := hcells 0 (by omega); simpa [tgF] using this
        have d1 : wo.cell? ⟨hb, to_ + j * 4 + 1, none⟩ = some (.int .u8 (T j).ag) := by
          have := hcells 1 (by omega)
          simpa [tgF, HK.out 1 (by omega)] using this
        have d2 : wo.cell? ⟨hb, to_ + j * 4 + 2, none⟩ = some (.int .u8 (T j).wh) := by
          have := hcells 2 (by omega)
          simpa [tgF, HK.out 2 (by omega)] using this
        have d3 : wo.cell? ⟨hb, to_ + j * 4 + 3, none⟩ = some (.int .u8 (T j).da) := by
          have := hcells 3 (by omega)
          simpa [tgF, HK.out 3 (by omega)] using this
        subst hthe
        clear hcells HK
        have htok := HA.out.thok j hlt
        have HCall := Lib.hid (lay15_any ba bw 1000 bt A m cap C wo (beg15 x0) (end15 x0) (layN C m x0 T j) HS.out.st xb x1 av (.slice none 0 0) (.pointer (some ⟨tb, 0, none⟩)) Ac cc base HS.out.blk HS.out.at_ (HA.out.cls.keep K) (HOk.out j hj) hm0' (end15_le b0) (by omega) (by omega) (by omega) (fun b off e => by have := HP.out.A b off e; exact ⟨this.2.2.1, this.2.1⟩) ⟨by omega, by omega, by omega, by omega, zo⟩ (by omega) (T j).cl (T j).ag (T j).wh (T j).da htok.1 htok.2.1 htok.2.2.1 htok.2.2.2)
        clear htok
        go_wp2_with fail
        refine Calls.mono HCall.out ?_
        clear HCall
        rintro e w8 ho
        obtain ⟨av', rfl, hS8, _⟩ := LS15.laid HS.out HP.out ho
        have HS8 := Lib.hid hS8
        have c18 := hS8.bx.c 1 _ rfl
        clear hS8 ho d0 d1 d2 d3 c1 HS
        go_wp2_with fail
        go_roundw
        case rel => exact ⟨j + 1, av', by omega, by go_num, HS8.out⟩
        case measure => simp [intOf]; omega
      · obtain rfl : j = nt := by omega
        have HOj := Lib.hid (HOk.out j (Nat.le_refl _))
        obtain ⟨s, hs⟩ : ∃ s, s = layN C m x0 T j := ⟨_, rfl⟩
        rw [← hs] at HS HOj hla
        have HSe := Lib.hid hs
        clear hs HOk c1 hlt
        obtain ⟨ad, cpa, hav⟩ := HS.out.at_.form
        subst hav
        obtain ⟨na, hna⟩ : ∃ na : Nat, na = s.at_.length := ⟨_, rfl⟩
        have HNa := Lib.hid hna
        have HAt := Lib.hid HS.out.at_
        rw [← hna] at HS hla
        have hna60 : na ≤ 60 := by omega
        have l4 : wo.cell? ⟨xb, 17, none⟩ = some (.slice ad na cpa) := HS.out.blk.c 17 _ rfl
        have c2 : wo.cell? ⟨w.heap.size, 2, none⟩ = some (.slice Rf nr rc) := HS.out.bx.c 2 _ rfl
        have HRdA := Lib.hid (show Rd wo ad na (intF .i64 fun j => s.at_.getD j 0) from by rw [hna]; exact HAt.out.rd.1)
        have HLoA := Lib.hid (show ∀ b off, ad = some ⟨b, off, none⟩ → base ≤ b ∧ b < wo.heap.size from HAt.out.rd.2)
        have HMem := Lib.hid (show ∀ p, p < na → s.at_.getD p 0 ∈ s.at_ from fun p hp => by rw [List.getD_eq_getElem?_getD, List.getElem?_eq_getElem (by omega)]; exact List.getElem_mem _)
        clear hna
        go_upto_block 2 with fail
        go_cut [] from 123 to 186 (fun wx => St wx ba bw 1000 (refN 1000 m C (rgF R) s nr).f bt A m cap C ∧ Only bw wo wx)
        case first =>
          go_wp2_with fail
          go_loopw [126] (fun i wr => ∃ (j2 : Nat), j2 ≤ nr ∧ i = .int .i64 j2 ∧ St wr ba bw 1000 (refN 1000 m C (rgF R) s j2).f bt A m cap C ∧ Only bw wo wr) (fun i _ => nr - (intOf i).toNat)
          case atStart => exact ⟨0, by omega, rfl, HS.out.st, Only.refl _ _⟩
          case round =>
            obtain ⟨w8, rfl⟩ : ∃ w8 : World, w8 = wr := ⟨_, rfl⟩
            obtain ⟨j2, hj2, rfl, hSt8, o8⟩ := hrel
            have HSt8 := Lib.hid hSt8
            have hz8 := o8.size
            clear hSt8
            by_cases hlt2 : j2 < nr
            · by_cases hn0 : na = 0
              · have hn0b : ((na : Int) == 0) = true := by simp; omega
                have HN0 := Lib.hid (show ∀ i, refN 1000 m C (rgF R) s i = s from refN_nil (by rw [← HNa.out]; exact hn0))
                go_wp2_with fail
                go_meet
                exact ⟨by rw [HN0.out]; have := HSt8.out; rw [HN0.out] at this; exact this, o8⟩
              · have hn0b : ((na : Int) == 0) = false := by simp; omega
                have hn0p : ¬ ((na : Int) = 0) := by omega
                have hn1p : ¬ ((na : Int) + 1 = 0) := by omega
                have gn1 : IntKind.i64.wrap ((na : Int) + 1) = (na : Int) + 1 := IntWalk.i64_in _ ⟨by omega, by omega⟩
                have K8 : Keeps w w8 := K.new o8 (by omega)
                obtain ⟨rb, ro, hre, hrc⟩ := (HA.out.refs.keep K8).at_ (k := j2) hlt2 (by omega)
                subst hre
                have u0 : w8.cell? ⟨rb, ro + j2 * 3, none⟩ = some (.int .u8 (R (j2 * 3))) := hrc 0 (by omega)
                have v1 : w8.cell? ⟨rb, ro + j2 * 3 + 1, none⟩ = some (.int .u8 (R (j2 * 3 + 1))) := hrc 1 (by omega)
                have v2 : w8.cell? ⟨rb, ro + j2 * 3 + 2, none⟩ = some (.int .u8 (R (j2 * 3 + 2))) := hrc 2 (by omega)
                have v0 := u0
                clear u0 hrc
                have nRB : rb ≠ bw := by
                  obtain ⟨b', o', he, hl, _⟩ := HA.out.refs (by omega)
                  simp only [Option.some.injEq, Addr.mk.injEq, and_true] at he
                  omega
                have nWB : w.heap.size ≠ bw := by omega
                have hxw : xb ≠ bw := HP.out.nx.2.1
                obtain ⟨x0a, x0b⟩ := HA.out.rok (j2 * 3) (by omega)
                obtain ⟨x1a, x1b⟩ := HA.out.rok (j2 * 3 + 1) (by omega)
                obtain ⟨x2a, x2b⟩ := HA.out.rok (j2 * 3 + 2) (by omega)
                have HR0 := Lib.hid (show (rgF R j2).a = R (j2 * 3) ∧ (rgF R j2).b = R (j2 * 3 + 1) ∧ (rgF R j2).c = R (j2 * 3 + 2) from ⟨rfl, rfl, rfl⟩)
                generalize R (j2 * 3) = y0 at *
                generalize R (j2 * 3 + 1) = y1 at *
                generalize R (j2 * 3 + 2) = y2 at *
                have gy0 : IntKind.i64.wrap y0 = y0 := IntWalk.i64_in _ ⟨by omega, by omega⟩
                have gy1 : IntKind.i64.wrap y1 = y1 := IntWalk.i64_in _ ⟨by omega, by omega⟩
                have gy2 : IntKind.i64.wrap y2 = y2 := IntWalk.i64_in _ ⟨by omega, by omega⟩
                obtain ⟨p1, hp1⟩ : ∃ p : Nat, y0.tmod (na : Int) = p := ⟨(y0.tmod na).toNat, by rw [Int.tmod_eq_emod_of_nonneg x0a]; have := Int.emod_nonneg y0 hn0p; omega⟩
                have HP1 := Lib.hid (show y0 % (na : Int) = p1 by rw [← hp1, Int.tmod_eq_emod_of_nonneg x0a])
                have hp1l : p1 < na := by have := Int.emod_lt_of_pos y0 (show (0 : Int) < na by omega); have := HP1.out; omega
                obtain ⟨p2, hp2⟩ : ∃ p : Nat, y2.tmod ((na : Int) + 1) = p := ⟨(y2.tmod (na + 1)).toNat, by rw [Int.tmod_eq_emod_of_nonneg x2a]; have := Int.emod_nonneg y2 hn1p; omega⟩
                have HP2 := Lib.hid (show y2 % ((na : Int) + 1) = p2 by rw [← hp2, Int.tmod_eq_emod_of_nonneg x2a])
                have hp2l : p2 ≤ na := by have := Int.emod_lt_of_pos y2 (show (0 : Int) < (na : Int) + 1 by omega); have := HP2.out; omega
                have hp1I : (p1 : Int) < na := by omega
                have l5' : w8.cell? ⟨xb, 17, none⟩ = some (.slice ad na cpa) := cell_only l4 o8 hxw
                have l2 := cell_only (HS.out.blk.c 2 _ rfl) o8 hxw
                have l3 := cell_only (HS.out.blk.c 3 _ rfl) o8 hxw
                have c28 := cell_only c2 o8 nWB
                obtain ⟨b5, o5, had, d5⟩ := (HRdA.out.keepS o8 (fun b off e h => by have := (HLoA.out b off e).1; omega)).one hp1l
                subst had
                have d6 : w8.cell? ⟨b5, o5 + p1, none⟩ = some (.int .i64 (s.at_.getD p1 0)) := d5
                have hfm := HMem.out p1 hp1l
                have HRd8 := Lib.hid (HRdA.out.keepS o8 (fun b off e h => by have := (HLoA.out b off e).1; omega))
                obtain ⟨to_, hto⟩ : ∃ to_ : Int, to_ = if p2 = 0 then 0 else s.at_.getD (p2 - 1) 0 := ⟨_, rfl⟩
                have HTo := Lib.hid hto
                obtain ⟨fa, hfa⟩ : ∃ fa : Int, s.at_.getD p1 0 = fa := ⟨_, rfl⟩
                rw [hfa] at d6 hfm
                have HFa := Lib.hid hfa
                obtain ⟨_, qt, qa⟩ := refN_t (n := 1000) (m := m) (C := C) (R := rgF R) (s := s) j2
                obtain ⟨g, hg⟩ : ∃ g, g = (refN 1000 m C (rgF R) s j2).f := ⟨_, rfl⟩
                have hOk8 := HOj.out.refN (R := rgF R) j2
                have hob : (objP (atT 1000 g m C fa)).2 = 0 ∧ objP (atT 1000 g m C fa) = atT 1000 g m C fa := by
                  rw [hg]
                  have := hOk8.hw.in1 ((hOk8.mem fa).1 (by rw [qa]; exact hfm))
                  exact this.2.2
                have HNext := Lib.hid (show ((objP (atT 1000 g m C fa)).1.refs ≤ 0 → (refN 1000 m C (rgF R) s (j2 + 1)).f = g) ∧ (0 < (objP (atT 1000 g m C fa)).1.refs → ∀ q, y1 % (objP (atT 1000 g m C fa)).1.refs = q → (refN 1000 m C (rgF R) s (j2 + 1)).f = putF g (refAt fa q).toNat to_) from by
                  rw [hob.2, hg]
                  have e0 : (refN 1000 m C (rgF R) s j2).at_.length = na := by rw [qa, ← HNa.out]
                  have e1 : (refN 1000 m C (rgF R) s (j2 + 1)) = (refN 1000 m C (rgF R) s j2).ref 1000 m C y0 y1 y2 := by
                    show (refN 1000 m C (rgF R) s j2).ref 1000 m C (rgF R j2).a (rgF R j2).b (rgF R j2).c = _
                    rw [HR0.out.1, HR0.out.2.1, HR0.out.2.2]
                  rw [e1]
                  exact ⟨fun hh => by rw [Lw.ref_no e0 hn0p HP1.out (by rw [qa]; exact hfa) hh], fun hh q hq => Lw.ref_yes e0 hn0p HP1.out (by rw [qa]; exact hfa) hh hq HP2.out (by rw [qa]; exact hto.symm)⟩)
                rw [← hg] at HSt8
                have hobz := hob.1
                clear d5 hto hfa hfm qt qa hg hOk8 hob HR0
                go_wp2_with fail
                refine wp_region_noPanic ?_
                refine wp_region_held_drew (S := (fun w' => Keeps w8 w')) (by kernel_rfl) (Touch.refl _ w8).drew (fun hHeld => ?_)
                refine' wpAnyH_take (i := 0) ?hi0_5 ?hs0_5 ?hf0_5 ?hr0_5 ?hQ0_5 ?hy0_5 (by assumption) ?rest0_5
                case hi0_5 => simp only [List.getElem?_toArray, List.getElem?_cons_zero] <;> rfl
                case hs0_5 => kernel_rfl
                case hf0_5 => kernel_rfl
                case hr0_5 => kernel_rfl
                case hQ0_5 => exact fun _ _ _ h => h
                case hy0_5 => exact Or.inl ⟨by rfl, fun w hSw => by have q0 := cell_keep l5' hSw; have q1 := cell_keep c28 hSw; have q2 := cell_keep v0 hSw; have q3 := cell_keep d6 hSw; go_simp <;> (try with_reducible rfl)⟩
                simp only [Act.put, List.setIfInBounds_toArray, List.set_cons_zero, List.set_cons_succ]
                refine' wpAnyH_take (i := 1) ?hi1_5 ?hs1_5 ?hf1_5 ?hr1_5 ?hQ1_5 ?hy1_5 (by assumption) ?rest1_5
                case hi1_5 => simp only [List.getElem?_toArray, List.getElem?_cons_succ, List.getElem?_cons_zero] <;> rfl
                case hs1_5 => kernel_rfl
                case hf1_5 => kernel_rfl
                case hr1_5 => kernel_rfl
                case hQ1_5 => exact fun _ _ _ h => h
                case hy1_5 => exact Or.inl ⟨by rfl, fun w hSw => by have q0 := cell_keep l5' hSw; have q1 := cell_keep c28 hSw; have q2 := cell_keep v0 hSw; have q3 := cell_keep d6 hSw; go_simp <;> (try with_reducible rfl)⟩
                simp only [Act.put, List.setIfInBounds_toArray, List.set_cons_zero, List.set_cons_succ]
                refine' wpAnyH_take (i := 2) ?hi2_5 ?hs2_5 ?hf2_5 ?hr2_5 ?hQ2_5 ?hy2_5 (by assumption) ?rest2_5
                case hi2_5 => simp only [List.getElem?_toArray, List.getElem?_cons_succ, List.getElem?_cons_zero] <;> rfl
                case hs2_5 => kernel_rfl
                case hf2_5 => kernel_rfl
                case hr2_5 => kernel_rfl
                case hQ2_5 => exact fun _ _ _ h => h
                case hy2_5 => exact Or.inl ⟨by rfl, fun w hSw => by have q0 := cell_keep l5' hSw; have q1 := cell_keep c28 hSw; have q2 := cell_keep v0 hSw; have q3 := cell_keep d6 hSw; go_simp <;> (try with_reducible rfl)⟩
                simp only [Act.put, List.setIfInBounds_toArray, List.set_cons_zero, List.set_cons_succ]
                refine' wpAnyH_take (i := 3) ?hi3_5 ?hs3_5 ?hf3_5 ?hr3_5 ?hQ3_5 ?hy3_5 (by assumption) ?rest3_5
                case hi3_5 => simp only [List.getElem?_toArray, List.getElem?_cons_succ, List.getElem?_cons_zero] <;> rfl
                case hs3_5 => kernel_rfl
                case hf3_5 => kernel_rfl
                case hr3_5 => kernel_rfl
                case hQ3_5 => exact fun _ _ _ h => h
                case hy3_5 => exact Or.inl ⟨by rfl, fun w hSw => by have q0 := cell_keep l5' hSw; have q1 := cell_keep c28 hSw; have q2 := cell_keep v0 hSw; have q3 := cell_keep d6 hSw; go_simp <;> (try with_reducible rfl)⟩
                simp only [Act.put, List.setIfInBounds_toArray, List.set_cons_zero, List.set_cons_succ]
                refine' wpAnyH_take (i := 4) ?hi4_5 ?hs4_5 ?hf4_5 ?hr4_5 ?hQ4_5 ?hy4_5 (by assumption) ?rest4_5
                case hi4_5 => simp only [List.getElem?_toArray, List.getElem?_cons_succ, List.getElem?_cons_zero] <;> rfl
                case hs4_5 => kernel_rfl
                case hf4_5 => kernel_rfl
                case hr4_5 => kernel_rfl
                case hQ4_5 => exact fun _ _ _ h => h
                case hy4_5 => exact Or.inl ⟨by rfl, fun w hSw => by have q0 := cell_keep l5' hSw; have q1 := cell_keep c28 hSw; have q2 := cell_keep v0 hSw; have q3 := cell_keep d6 hSw; go_simp <;> (try with_reducible rfl)⟩
                simp only [Act.put, List.setIfInBounds_toArray, List.set_cons_zero, List.set_cons_succ]
                refine' wpAnyH_take (i := 5) ?hi5_5 ?hs5_5 ?hf5_5 ?hr5_5 ?hQ5_5 ?hy5_5 (by assumption) ?rest5_5
                case hi5_5 => simp only [List.getElem?_toArray, List.getElem?_cons_succ, List.getElem?_cons_zero] <;> rfl
                case hs5_5 => kernel_rfl
                case hf5_5 => kernel_rfl
                case hr5_5 => kernel_rfl
                case hQ5_5 => exact fun _ _ _ h => h
                case hy5_5 => exact Or.inl ⟨by rfl, fun w hSw => by have q0 := cell_keep l5' hSw; have q1 := cell_keep c28 hSw; have q2 := cell_keep v0 hSw; have q3 := cell_keep d6 hSw; go_simp <;> (try with_reducible rfl)⟩
                simp only [Act.put, List.setIfInBounds_toArray, List.set_cons_zero, List.set_cons_succ]
                refine' wpAnyH_take (i := 6) ?hi6_5 ?hs6_5 ?hf6_5 ?hr6_5 ?hQ6_5 ?hy6_5 (by assumption) ?rest6_5
                case hi6_5 => simp only [List.getElem?_toArray, List.getElem?_cons_succ, List.getElem?_cons_zero] <;> rfl
                case hs6_5 => kernel_rfl
                case hf6_5 => kernel_rfl
                case hr6_5 => kernel_rfl
                case hQ6_5 => exact fun _ _ _ h => h
                case hy6_5 => exact Or.inl ⟨by rfl, fun w hSw => by have q0 := cell_keep l5' hSw; have q1 := cell_keep c28 hSw; have q2 := cell_keep v0 hSw; have q3 := cell_keep d6 hSw; go_simp <;> (try with_reducible rfl)⟩
                simp only [Act.put, List.setIfInBounds_toArray, List.set_cons_zero, List.set_cons_succ]
                refine' wpAnyH_take (i := 7) ?hi7_5 ?hs7_5 ?hf7_5 ?hr7_5 ?hQ7_5 ?hy7_5 (by assumption) ?rest7_5
                case hi7_5 => simp only [List.getElem?_toArray, List.getElem?_cons_succ, List.getElem?_cons_zero] <;> rfl
                case hs7_5 => kernel_rfl
                case hf7_5 => kernel_rfl
                case hr7_5 => kernel_rfl
                case hQ7_5 => exact fun _ _ _ h => h
                case hy7_5 => exact Or.inl ⟨by rfl, fun w hSw => by have q0 := cell_keep l5' hSw; have q1 := cell_keep c28 hSw; have q2 := cell_keep v0 hSw; have q3 := cell_keep d6 hSw; go_simp <;> (try with_reducible rfl)⟩
                simp only [Act.put, List.setIfInBounds_toArray, List.set_cons_zero, List.set_cons_succ]
                refine' wpAnyH_take (i := 8) ?hi8_5 ?hs8_5 ?hf8_5 ?hr8_5 ?hQ8_5 ?hy8_5 (by assumption) ?rest8_5
                case hi8_5 => simp only [List.getElem?_toArray, List.getElem?_cons_succ, List.getElem?_cons_zero] <;> rfl
                case hs8_5 => kernel_rfl
                case hf8_5 => kernel_rfl
                case hr8_5 => kernel_rfl
                case hQ8_5 => exact fun _ _ _ h => h
                case hy8_5 => exact Or.inl ⟨by rfl, fun w hSw => by have q0 := cell_keep l5' hSw; have q1 := cell_keep c28 hSw; have q2 := cell_keep v0 hSw; have q3 := cell_keep d6 hSw; go_simp <;> (try with_reducible rfl)⟩
                simp only [Act.put, List.setIfInBounds_toArray, List.set_cons_zero, List.set_cons_succ]
                refine' wpAnyH_take (i := 9) ?hi9_5 ?hs9_5 ?hf9_5 ?hr9_5 ?hQ9_5 ?hy9_5 (by assumption) ?rest9_5
                case hi9_5 => simp only [List.getElem?_toArray, List.getElem?_cons_succ, List.getElem?_cons_zero] <;> rfl
                case hs9_5 => kernel_rfl
                case hf9_5 => kernel_rfl
                case hr9_5 => kernel_rfl
                case hQ9_5 => exact fun _ _ _ h => h
                case hy9_5 => exact Or.inl ⟨by rfl, fun w hSw => by have q0 := cell_keep l5' hSw; have q1 := cell_keep c28 hSw; have q2 := cell_keep v0 hSw; have q3 := cell_keep d6 hSw; go_simp <;> (try with_reducible rfl)⟩
                simp only [Act.put, List.setIfInBounds_toArray, List.set_cons_zero, List.set_cons_succ]
                refine' wpAnyH_take (i := 10) ?hi10_5 ?hs10_5 ?hf10_5 ?hr10_5 ?hQ10_5 ?hy10_5 (by assumption) ?rest10_5
                case hi10_5 => simp only [List.getElem?_toArray, List.getElem?_cons_succ, List.getElem?_cons_zero] <;> rfl
                case hs10_5 => kernel_rfl
                case hf10_5 => kernel_rfl
                case hr10_5 => kernel_rfl
                case hQ10_5 => exact fun _ _ _ h => h
                case hy10_5 => exact Or.inl ⟨by rfl, fun w hSw => by have q0 := cell_keep l5' hSw; have q1 := cell_keep c28 hSw; have q2 := cell_keep v0 hSw; have q3 := cell_keep d6 hSw; go_simp <;> (try with_reducible rfl)⟩
                simp only [Act.put, List.setIfInBounds_toArray, List.set_cons_zero, List.set_cons_succ]
                refine' wpAnyH_take (i := 11) ?hi11_5 ?hs11_5 ?hf11_5 ?hr11_5 ?hQ11_5 ?hy11_5 (by assumption) ?rest11_5
                case hi11_5 => simp only [List.getElem?_toArray, List.getElem?_cons_succ, List.getElem?_cons_zero] <;> rfl
                case hs11_5 => kernel_rfl
                case hf11_5 => kernel_rfl
                case hr11_5 => kernel_rfl
                case hQ11_5 => exact fun _ _ _ h => h
                case hy11_5 => exact Or.inl ⟨by rfl, fun w hSw => by have q0 := cell_keep l5' hSw; have q1 := cell_keep c28 hSw; have q2 := cell_keep v0 hSw; have q3 := cell_keep d6 hSw; go_simp <;> (try with_reducible rfl)⟩
                simp only [Act.put, List.setIfInBounds_toArray, List.set_cons_zero, List.set_cons_succ]
                refine' wpAnyH_take (i := 12) ?hi12_5 ?hs12_5 ?hf12_5 ?hr12_5 ?hQ12_5 ?hy12_5 (by assumption) ?rest12_5
                case hi12_5 => simp only [List.getElem?_toArray, List.getElem?_cons_succ, List.getElem?_cons_zero] <;> rfl
                case hs12_5 => kernel_rfl
                case hf12_5 => kernel_rfl
                case hr12_5 => kernel_rfl
                case hQ12_5 => exact fun _ _ _ h => h
                case hy12_5 => exact Or.inl ⟨by rfl, fun w hSw => by have q0 := cell_keep l5' hSw; have q1 := cell_keep c28 hSw; have q2 := cell_keep v0 hSw; have q3 := cell_keep d6 hSw; go_simp <;> (try with_reducible rfl)⟩
                simp only [Act.put, List.setIfInBounds_toArray, List.set_cons_zero, List.set_cons_succ]
                refine' wpAnyH_take (i := 13) ?hi13_5 ?hs13_5 ?hf13_5 ?hr13_5 ?hQ13_5 ?hy13_5 (by assumption) ?rest13_5
                case hi13_5 => simp only [List.getElem?_toArray, List.getElem?_cons_succ, List.getElem?_cons_zero] <;> rfl
                case hs13_5 => kernel_rfl
                case hf13_5 => kernel_rfl
                case hr13_5 => kernel_rfl
                case hQ13_5 => exact fun _ _ _ h => h
                case hy13_5 => exact Or.inl ⟨by rfl, fun w hSw => by have q0 := cell_keep l5' hSw; have q1 := cell_keep c28 hSw; have q2 := cell_keep v0 hSw; have q3 := cell_keep d6 hSw; go_simp <;> (try with_reducible rfl)⟩
                simp only [Act.put, List.setIfInBounds_toArray, List.set_cons_zero, List.set_cons_succ]
                refine' wpAnyH_take (i := 14) ?hi14_5 ?hs14_5 ?hf14_5 ?hr14_5 ?hQ14_5 ?hy14_5 (by assumption) ?rest14_5
                case hi14_5 => simp only [List.getElem?_toArray, List.getElem?_cons_succ, List.getElem?_cons_zero] <;> rfl
                case hs14_5 => kernel_rfl
                case hf14_5 => kernel_rfl
                case hr14_5 => kernel_rfl
                case hQ14_5 => exact fun _ _ _ h => h
                case hy14_5 => exact Or.inl ⟨by rfl, fun w hSw => by have q0 := cell_keep l5' hSw; have q1 := cell_keep c28 hSw; have q2 := cell_keep v0 hSw; have q3 := cell_keep d6 hSw; go_simp <;> (try with_reducible rfl)⟩
                simp only [Act.put, List.setIfInBounds_toArray, List.set_cons_zero, List.set_cons_succ]
                refine wpAnyH_done (by kernel_rfl) ?_ _
                refine NoPanic.normal ?_
                go_upto_if 155 with fail
                go_cut [14] from 156 to 161 (fun s9 wx => s9 = .int .i64 to_ ∧ w8.drew = wx)
                case first =>
                  have hto := HTo.out
                  clear HTo
                  by_cases hp0 : p2 = 0
                  · rw [if_pos hp0] at hto
                    subst hp0
                    go_wp2_with fail
                    go_meet
                    exact ⟨by rw [hto], rfl⟩
                  · rw [if_neg hp0] at hto
                    obtain ⟨p3, hp3⟩ : ∃ p3 : Nat, p2 - 1 = p3 := ⟨_, rfl⟩
                    rw [hp3] at hto
                    have hp20 : 0 < p2 := by omega
                    have hp2I : (0 : Int) < p2 := by omega
                    have gp3 : IntKind.i64.wrap ((p2 : Int) - 1) = p3 := by rw [IntWalk.i64_in _ ⟨by omega, by omega⟩]; omega
                    have hp3l : p3 < na := by omega
                    have hp3I : (p3 : Int) < na := by omega
                    obtain ⟨b7, o7, he7, d7⟩ := HRd8.out.one hp3l
                    simp only [Option.some.injEq, Addr.mk.injEq, and_true] at he7
                    obtain ⟨rfl, rfl⟩ := he7
                    have d8 : w8.cell? ⟨b5, o5 + p3, none⟩ = some (.int .i64 (s.at_.getD p3 0)) := d7
                    rw [← hto] at d8
                    clear d7 hto hp3
                    go_wp2_with fail
                    go_meet
                    exact ⟨rfl, rfl⟩
                case rest =>
                obtain ⟨rfl, rfl⟩ := hcut
                have HSh := Lib.hid (show ∀ w', Keeps w8 w' → Calls Try.prog 17 #[.agg #[.pointer (some ⟨ba, 0, none⟩), .pointer (some ⟨bt, 0, none⟩)], .int .i64 fa] w' fun e w2 => e = .returned (.tuple #[.int .i64 (objP (atT 1000 g m C fa)).1.refs, .int .i64 (objP (atT 1000 g m C fa)).1.data, .int .i64 0]) ∧ Keeps w' w2 from fun w' kk => by
                  have hh := oshape_any ba bw 1000 g bt A m cap C w' (HSt8.out.keep kk) fa
                  rw [hobz] at hh
                  exact hh)
                have hrb := obj_ok HCk.out hobz
                have HSR := Lib.hid (show ∀ w', Keeps w8 w' → ∀ q, 0 ≤ q → q < (objP (atT 1000 g m C fa)).1.refs → Calls Try.prog 18 #[.agg #[.pointer (some ⟨ba, 0, none⟩), .pointer (some ⟨bt, 0, none⟩)], .int .i64 fa, .int .i64 q, .int .i64 to_] w' fun e w2 => e = .returned (.int .i64 0) ∧ St w2 ba bw 1000 (putF g (refAt fa q).toNat to_) bt A m cap C ∧ Only bw w' w2 from fun w' kk q q0 q1 => setref_yes ba bw 1000 g bt A m cap C w' (HSt8.out.keep kk) fa q to_ (slE_zero.2 ⟨hobz, q0, q1⟩))
                obtain ⟨_, hr0, hr1, _, _, _⟩ := hrb
                generalize (objP (atT 1000 g m C fa)).1.refs = r at *
                generalize (objP (atT 1000 g m C fa)).1.data = dd at *
                clear hobz
                have kd : Keeps w8 w8.drew := (Touch.refl _ w8).drew
                go_wp2_with fail
                refine Calls.mono (HSh.out _ kd) ?_
                clear HSh
                rintro e w9 ⟨rfl, k9⟩
                have k89 : Keeps w8 w9 := Keeps.trans kd k9
                have hz9 := k89.size
                have l29 := cell_keep l2 k89
                have l39 := cell_keep l3 k89
                have c29 := cell_keep c28 k89
                have v19 := cell_keep v1 k89
                clear l2 l3 l5' c28 v0 v1 v2 d6 k9 kd
                by_cases hrp : 0 < r
                · have hr0p : ¬ (r = 0) := by omega
                  obtain ⟨q, hq⟩ : ∃ q : Int, y1.tmod r = q := ⟨_, rfl⟩
                  have HQe := Lib.hid (show y1 % r = q by rw [← hq, Int.tmod_eq_emod_of_nonneg x1a])
                  have hq01 : 0 ≤ q ∧ q < r := by
                    have := HQe.out
                    have a := Int.emod_nonneg y1 hr0p
                    have b := Int.emod_lt_of_pos y1 hrp
                    omega
                  obtain ⟨hq0, hq1⟩ := hq01
                  go_wp2_with fail
                  refine wp_region_noPanic ?_
                  refine wp_region_held_drew (S := (fun w' => Only bw w9 w')) (by kernel_rfl) (Only.refl _ w9).drew (fun hHeld => ?_)
                  refine' wpAnyH_take (i := 0) ?hi0_6 ?hs0_6 ?hf0_6 ?hr0_6 ?hQ0_6 ?hy0_6 (by assumption) ?rest0_6
                  case hi0_6 => simp only [List.getElem?_toArray, List.getElem?_cons_zero] <;> rfl
                  case hs0_6 => kernel_rfl
                  case hf0_6 => kernel_rfl
                  case hr0_6 => kernel_rfl
                  case hQ0_6 => exact fun _ _ _ h => h
                  case hy0_6 => exact Or.inl ⟨by rfl, fun w hSw => by have q0 := cell_only l29 hSw hxw; have q1 := cell_only l39 hSw hxw; have q2 := cell_only c29 hSw nWB; have q3 := cell_only v19 hSw nRB; go_simp <;> (try with_reducible rfl)⟩
                  simp only [Act.put, List.setIfInBounds_toArray, List.set_cons_zero, List.set_cons_succ]
                  refine' wpAnyH_take (i := 1) ?hi1_6 ?hs1_6 ?hf1_6 ?hr1_6 ?hQ1_6 ?hy1_6 (by assumption) ?rest1_6
                  case hi1_6 => simp only [List.getElem?_toArray, List.getElem?_cons_succ, List.getElem?_cons_zero] <;> rfl
                  case hs1_6 => kernel_rfl
                  case hf1_6 => kernel_rfl
                  case hr1_6 => kernel_rfl
                  case hQ1_6 => exact fun _ _ _ h => h
                  case hy1_6 => exact Or.inl ⟨by rfl, fun w hSw => by have q0 := cell_only l29 hSw hxw; have q1 := cell_only l39 hSw hxw; have q2 := cell_only c29 hSw nWB; have q3 := cell_only v19 hSw nRB; go_simp <;> (try with_reducible rfl)⟩
                  simp only [Act.put, List.setIfInBounds_toArray, List.set_cons_zero, List.set_cons_succ]
                  refine' wpAnyH_take (i := 2) ?hi2_6 ?hs2_6 ?hf2_6 ?hr2_6 ?hQ2_6 ?hy2_6 (by assumption) ?rest2_6
                  case hi2_6 => simp only [List.getElem?_toArray, List.getElem?_cons_succ, List.getElem?_cons_zero] <;> rfl
                  case hs2_6 => kernel_rfl
                  case hf2_6 => kernel_rfl
                  case hr2_6 => kernel_rfl
                  case hQ2_6 => exact fun _ _ _ h => h
                  case hy2_6 => exact Or.inl ⟨by rfl, fun w hSw => by have q0 := cell_only l29 hSw hxw; have q1 := cell_only l39 hSw hxw; have q2 := cell_only c29 hSw nWB; have q3 := cell_only v19 hSw nRB; go_simp <;> (try with_reducible rfl)⟩
                  simp only [Act.put, List.setIfInBounds_toArray, List.set_cons_zero, List.set_cons_succ]
                  refine' wpAnyH_take (i := 3) ?hi3_6 ?hs3_6 ?hf3_6 ?hr3_6 ?hQ3_6 ?hy3_6 (by assumption) ?rest3_6
                  case hi3_6 => simp only [List.getElem?_toArray, List.getElem?_cons_succ, List.getElem?_cons_zero] <;> rfl
                  case hs3_6 => kernel_rfl
                  case hf3_6 => kernel_rfl
                  case hr3_6 => kernel_rfl
                  case hQ3_6 => exact fun _ _ _ h => h
                  case hy3_6 => exact Or.inl ⟨by rfl, fun w hSw => by have q0 := cell_only l29 hSw hxw; have q1 := cell_only l39 hSw hxw; have q2 := cell_only c29 hSw nWB; have q3 := cell_only v19 hSw nRB; go_simp <;> (try with_reducible rfl)⟩
                  simp only [Act.put, List.setIfInBounds_toArray, List.set_cons_zero, List.set_cons_succ]
                  refine' wpAnyH_take (i := 4) ?hi4_6 ?hs4_6 ?hf4_6 ?hr4_6 ?hQ4_6 ?hy4_6 (by assumption) ?rest4_6
                  case hi4_6 => simp only [List.getElem?_toArray, List.getElem?_cons_succ, List.getElem?_cons_zero] <;> rfl
                  case hs4_6 => kernel_rfl
                  case hf4_6 => kernel_rfl
                  case hr4_6 => kernel_rfl
                  case hQ4_6 => exact fun _ _ _ h => h
                  case hy4_6 => exact Or.inl ⟨by rfl, fun w hSw => by have q0 := cell_only l29 hSw hxw; have q1 := cell_only l39 hSw hxw; have q2 := cell_only c29 hSw nWB; have q3 := cell_only v19 hSw nRB; go_simp <;> (try with_reducible rfl)⟩
                  simp only [Act.put, List.setIfInBounds_toArray, List.set_cons_zero, List.set_cons_succ]
                  refine' wpAnyH_take (i := 5) ?hi5_6 ?hs5_6 ?hf5_6 ?hr5_6 ?hQ5_6 ?hy5_6 (by assumption) ?rest5_6
                  case hi5_6 => simp only [List.getElem?_toArray, List.getElem?_cons_succ, List.getElem?_cons_zero] <;> rfl
                  case hs5_6 => kernel_rfl
                  case hf5_6 => kernel_rfl
                  case hr5_6 => kernel_rfl
                  case hQ5_6 => exact fun _ _ _ h => h
                  case hy5_6 => exact Or.inl ⟨by rfl, fun w hSw => by have q0 := cell_only l29 hSw hxw; have q1 := cell_only l39 hSw hxw; have q2 := cell_only c29 hSw nWB; have q3 := cell_only v19 hSw nRB; go_simp <;> (try with_reducible rfl)⟩
                  simp only [Act.put, List.setIfInBounds_toArray, List.set_cons_zero, List.set_cons_succ]
                  refine' wpAnyH_take (i := 6) ?hi6_6 ?hs6_6 ?hf6_6 ?hr6_6 ?hQ6_6 ?hy6_6 (by assumption) ?rest6_6
                  case hi6_6 => simp only [List.getElem?_toArray, List.getElem?_cons_succ, List.getElem?_cons_zero] <;> rfl
                  case hs6_6 => kernel_rfl
                  case hf6_6 => kernel_rfl
                  case hr6_6 => kernel_rfl
                  case hQ6_6 => exact fun _ _ _ h => h
                  case hy6_6 => exact Or.inl ⟨by rfl, fun w hSw => by have q0 := cell_only l29 hSw hxw; have q1 := cell_only l39 hSw hxw; have q2 := cell_only c29 hSw nWB; have q3 := cell_only v19 hSw nRB; go_simp <;> (try with_reducible rfl)⟩
                  simp only [Act.put, List.setIfInBounds_toArray, List.set_cons_zero, List.set_cons_succ]
                  refine' wpAnyH_take (i := 7) ?hi7_6 ?hs7_6 ?hf7_6 ?hr7_6 ?hQ7_6 ?hy7_6 (by assumption) ?rest7_6
                  case hi7_6 => simp only [List.getElem?_toArray, List.getElem?_cons_succ, List.getElem?_cons_zero] <;> rfl
                  case hs7_6 => kernel_rfl
                  case hf7_6 => kernel_rfl
                  case hr7_6 => kernel_rfl
                  case hQ7_6 => exact fun _ _ _ h => h
                  case hy7_6 => exact Or.inl ⟨by rfl, fun w hSw => by have q0 := cell_only l29 hSw hxw; have q1 := cell_only l39 hSw hxw; have q2 := cell_only c29 hSw nWB; have q3 := cell_only v19 hSw nRB; go_simp <;> (try with_reducible rfl)⟩
                  simp only [Act.put, List.setIfInBounds_toArray, List.set_cons_zero, List.set_cons_succ]
                  refine' wpAnyH_take (i := 8) ?hi8_6 ?hs8_6 ?hf8_6 ?hr8_6 ?hQ8_6 ?hy8_6 (by assumption) ?rest8_6
                  case hi8_6 => simp only [List.getElem?_toArray, List.getElem?_cons_succ, List.getElem?_cons_zero] <;> rfl
                  case hs8_6 => kernel_rfl
                  case hf8_6 => kernel_rfl
                  case hr8_6 => kernel_rfl
                  case hQ8_6 => exact fun _ _ _ h => h
                  case hy8_6 => exact Or.inl ⟨by rfl, fun w hSw => by have q0 := cell_only l29 hSw hxw; have q1 := cell_only l39 hSw hxw; have q2 := cell_only c29 hSw nWB; have q3 := cell_only v19 hSw nRB; go_simp <;> (try with_reducible rfl)⟩
                  simp only [Act.put, List.setIfInBounds_toArray, List.set_cons_zero, List.set_cons_succ]
                  refine' wpAnyH_take (i := 9) ?hi9_6 ?hs9_6 ?hf9_6 ?hr9_6 ?hQ9_6 ?hy9_6 (by assumption) ?rest9_6
                  case hi9_6 => simp only [List.getElem?_toArray, List.getElem?_cons_succ, List.getElem?_cons_zero] <;> rfl
                  case hs9_6 => kernel_rfl
                  case hf9_6 => kernel_rfl
                  case hr9_6 => kernel_rfl
                  case hQ9_6 => exact fun _ _ _ h => h
                  case hy9_6 => exact Or.inl ⟨by rfl, fun w hSw => by have q0 := cell_only l29 hSw hxw; have q1 := cell_only l39 hSw hxw; have q2 := cell_only c29 hSw nWB; have q3 := cell_only v19 hSw nRB; go_simp <;> (try with_reducible rfl)⟩
                  simp only [Act.put, List.setIfInBounds_toArray, List.set_cons_zero, List.set_cons_succ]
                  refine' wpAnyH_take (i := 10) ?hi10_6 ?hs10_6 ?hf10_6 ?hr10_6 ?hQ10_6 ?hy10_6 (by assumption) ?rest10_6
                  case hi10_6 => simp only [List.getElem?_toArray, List.getElem?_cons_succ, List.getElem?_cons_zero] <;> rfl
                  case hs10_6 => kernel_rfl
                  case hf10_6 => kernel_rfl
                  case hr10_6 => kernel_rfl
                  case hQ10_6 => exact fun _ _ _ h => h
                  case hy10_6 => exact Or.inl ⟨by rfl, fun w hSw => by have q0 := cell_only l29 hSw hxw; have q1 := cell_only l39 hSw hxw; have q2 := cell_only c29 hSw nWB; have q3 := cell_only v19 hSw nRB; go_simp <;> (try with_reducible rfl)⟩
                  simp only [Act.put, List.setIfInBounds_toArray, List.set_cons_zero, List.set_cons_succ]
                  refine' wpAnyH_take (i := 11) ?hi11_6 ?hs11_6 ?hf11_6 ?hr11_6 ?hQ11_6 ?hy11_6 (by assumption) ?rest11_6
                  case hi11_6 => simp only [List.getElem?_toArray, List.getElem?_cons_succ, List.getElem?_cons_zero] <;> rfl
                  case hs11_6 => kernel_rfl
                  case hf11_6 => kernel_rfl
                  case hr11_6 => kernel_rfl
                  case hQ11_6 => exact fun _ _ _ h => h
                  case hy11_6 => exact Or.inl ⟨by rfl, fun w hSw => by have q0 := cell_only l29 hSw hxw; have q1 := cell_only l39 hSw hxw; have q2 := cell_only c29 hSw nWB; have q3 := cell_only v19 hSw nRB; go_simp <;> (try with_reducible rfl)⟩
                  simp only [Act.put, List.setIfInBounds_toArray, List.set_cons_zero, List.set_cons_succ]
                  refine' wpAnyH_take (i := 12) ?hi12_6 ?hs12_6 ?hf12_6 ?hr12_6 ?hQ12_6 ?hy12_6 (by assumption) ?rest12_6
                  case hi12_6 => simp only [List.getElem?_toArray, List.getElem?_cons_succ, List.getElem?_cons_zero] <;> rfl
                  case hs12_6 => kernel_rfl
                  case hf12_6 => kernel_rfl
                  case hr12_6 => kernel_rfl
                  case hQ12_6 => exact fun _ _ _ h => h
                  case hy12_6 => exact Or.inl ⟨by rfl, fun w hSw => by have q0 := cell_only l29 hSw hxw; have q1 := cell_only l39 hSw hxw; have q2 := cell_only c29 hSw nWB; have q3 := cell_only v19 hSw nRB; go_simp <;> (try with_reducible rfl)⟩
                  simp only [Act.put, List.setIfInBounds_toArray, List.set_cons_zero, List.set_cons_succ]
                  refine wpAnyH_ready (rs := [13]) (by kernel_rfl) (by simp) ?_
                  refine AllReadyH.cons rfl (fun K hK => ?_) AllReadyH.nil
                  go_simp
                  with_reducible refine Calls.mono (HSR.out _ (Keeps.trans k89 (Touch.drew (Touch.refl (fun _ => False) w9))) q hq0 hq1) ?_
                  rintro e w10 ⟨rfl, hS10, o10⟩
                  go_wp2_with fail
                  refine hK.out _ _ (hHeld.trans_ o10) (fun hHeld => ?_)
                  clear hK K
                  refine wpAnyH_done (by kernel_rfl) ?_ _
                  refine NoPanic.normal ?_
                  go_wp2_with fail
                  have o10 : Only bw w8 w10 := Touch.trans (Touch.only k89) hHeld (fun x hx _ => hx)
                  have HFin := Lib.hid (HNext.out.2 hrp q HQe.out)
                  go_roundw
                  case rel => exact ⟨j2 + 1, by omega, by go_num, by rw [HFin.out]; exact hS10, Only.trans_ o8 o10⟩
                  case measure => simp [intOf]; omega
                · have hr0 : r = 0 := by omega
                  subst hr0
                  have HFin := Lib.hid (HNext.out.1 (Int.le_refl 0))
                  go_wp2_with fail
                  go_roundw
                  case rel => exact ⟨j2 + 1, by omega, by go_num, by rw [HFin.out]; exact HSt8.out.keep k89, Touch.keep o8 k89⟩
                  case measure => simp [intOf]; omega
            · obtain rfl : j2 = nr := by omega
              go_wp2_with fail
              go_meet
              exact ⟨HSt8.out, o8⟩
        case rest =>
        obtain ⟨w8, rfl⟩ : ∃ w8 : World, w8 = wc := ⟨_, rfl⟩
        obtain ⟨hSt8, o8⟩ := hcut
        obtain ⟨q1, q2, q3⟩ := refN_t (n := 1000) (m := m) (C := C) (R := rgF R) (s := s) nr
        have HOr := Lib.hid (HOj.out.refN (R := rgF R) nr)
        obtain ⟨s2, hs2⟩ : ∃ s2, s2 = refN 1000 m C (rgF R) s nr := ⟨_, rfl⟩
        have HE2 := Lib.hid (show ({ s with f := s2.f } : Lw) = s2 from by rw [hs2]; generalize refN 1000 m C (rgF R) s nr = s3 at *; obtain ⟨a1, a2, a3, a4⟩ := s3; obtain ⟨b1, b2, b3, b4⟩ := s; dsimp only at *; rw [q1, q2, q3])
        have HAt2 := Lib.hid (show s2.at_ = s.at_ by rw [hs2, q3])
        have HS2 := Lib.hid hs2
        rw [← hs2] at hSt8 HOr
        have hS8 := LS15.words HS.out HP.out hSt8 o8
        rw [HE2.out] at hS8
        have HS8 := Lib.hid hS8
        have z8 := o8.size
        have K8 := hS8.k
        have hzb8 := hS8.z
        have c3 : w8.cell? ⟨w.heap.size, 3, none⟩ = some (.slice Ro nz zc) := hS8.bx.c 3 _ rfl
        have HRd8 := Lib.hid (HRdA.out.keepS o8 (fun b off e h => by have := (HLoA.out b off e).1; omega))
        have HLo8 := Lib.hid (show ∀ b off, ad = some ⟨b, off, none⟩ → base ≤ b ∧ b < w8.heap.size from fun b off e => by have := HLoA.out b off e; omega)
        have hn1p : ¬ ((na : Int) + 1 = 0) := by omega
        have gn1 : IntKind.i64.wrap ((na : Int) + 1) = (na : Int) + 1 := IntWalk.i64_in _ ⟨by omega, by omega⟩
        have HAb8 := Lib.hid (show ∀ kk, (Value.slice ad na cpa).ownBlock = some kk → kk < w8.heap.size from fun kk e => (hS8.at_.lt kk e).2)
        clear hS8 hSt8 q1 q2 q3 hs2 HS HRdA HLoA HAt l4 c2 HOj HE2 K HMem
        go_wp2_with fail
        go_loopw [190] (fun i wr => ∃ (j3 : Nat) (rv : Value), j3 ≤ nz ∧ i = .int .i64 j3 ∧ LS15 w wr (worldV Ac m cc Th j tc Rf nr rc Ro nz zc s0 s1) xb ba bw bt A m cap C (beg15 x0) (end15 x0) x1 (.slice ad na cpa) rv tb mb vb Ac cc s2 (fun _ => false) base ∧ OwnInts wr w8.heap.size rv (rootsN s2 Z j3) ∧ w8.heap.size ≤ wr.heap.size) (fun i _ => nz - (intOf i).toNat)
        case atStart => exact ⟨0, .slice none 0 0, by omega, rfl, HS8.out, OwnInts.nil_ _ _, Nat.le_refl _⟩
        case round =>
          clear c3
          obtain ⟨w9, rfl⟩ : ∃ w9 : World, w9 = wr := ⟨_, rfl⟩
          obtain ⟨j3, rv, hj3, rfl, hS9, hown, z9⟩ := hrel
          have HOwn := Lib.hid hown
          have HS9 := Lib.hid hS9
          have hrl : (rootsN s2 Z j3).length = j3 := by simp [rootsN]
          obtain ⟨ar, cr, hv⟩ := hown.form
          subst hv
          rw [hrl] at HOwn HS9
          have HRl := Lib.hid hrl
          have l5 : w9.cell? ⟨xb, 18, none⟩ = some (.slice ar j3 cr) := HS9.out.blk.c 18 _ rfl
          have f5 := HS9.out.blk.fz 18
          have l4 : w9.cell? ⟨xb, 17, none⟩ = some (.slice ad na cpa) := HS9.out.blk.c 17 _ rfl
          have c3 : w9.cell? ⟨w.heap.size, 3, none⟩ = some (.slice Ro nz zc) := HS9.out.bx.c 3 _ rfl
          have K9 := HS9.out.k
          have hlo := HOwn.out.lt
          clear hown hS9 hrl
          by_cases hlt3 : j3 < nz
          · obtain ⟨rb, ro, hre, d0⟩ := (HA.out.roots.keep K9).one hlt3
            have d1 : w9.cell? ⟨rb, ro + j3, none⟩ = some (.int .u8 (Z j3)) := d0
            subst hre
            obtain ⟨y0a, y0b⟩ := HA.out.zok j3 hlt3
            have HZj := Lib.hid (rootsN_succ s2 Z j3)
            generalize Z j3 = y at *
            have gy : IntKind.i64.wrap y = y := IntWalk.i64_in _ ⟨by omega, by omega⟩
            obtain ⟨p2, hp2⟩ : ∃ p : Nat, y.tmod ((na : Int) + 1) = p := ⟨(y.tmod (na + 1)).toNat, by rw [Int.tmod_eq_emod_of_nonneg y0a]; have := Int.emod_nonneg y hn1p; omega⟩
            have HP2 := Lib.hid (show y % ((na : Int) + 1) = p2 by rw [← hp2, Int.tmod_eq_emod_of_nonneg y0a])
            have hp2l : p2 ≤ na := by have := Int.emod_lt_of_pos y (show (0 : Int) < (na : Int) + 1 by omega); have := HP2.out; omega
            obtain ⟨to_, hto⟩ : ∃ to_ : Int, to_ = if p2 = 0 then 0 else s.at_.getD (p2 - 1) 0 := ⟨_, rfl⟩
            have HTo := Lib.hid hto
            have HRn := Lib.hid (show rootsN s2 Z (j3 + 1) = rootsN s2 Z j3 ++ [to_] by rw [HZj.out, HAt2.out, ← HNa.out, HP2.out, pick_nat, hto])
            have HRd9 := Lib.hid (show Rd w9 ad na (intF .i64 fun j => s.at_.getD j 0) from by have h1 := HS9.out.at_; rw [HAt2.out] at h1; have e : na = s.at_.length := HNa.out; subst e; exact h1.rd.1)
            clear d0 hto HZj
            go_upto_if 203 with fail
            go_cut [20] from 204 to 209 (fun s9 wx => s9 = .int .i64 to_ ∧ w9 = wx)
            case first =>
              have hto := HTo.out
              clear HTo
              by_cases hp0 : p2 = 0
              · rw [if_pos hp0] at hto
                subst hp0
                go_wp2_with fail
                go_meet
                exact ⟨by rw [hto], rfl⟩
              · rw [if_neg hp0] at hto
                obtain ⟨p3, hp3⟩ : ∃ p3 : Nat, p2 - 1 = p3 := ⟨_, rfl⟩
                rw [hp3] at hto
                have hp20 : 0 < p2 := by omega
                have hp2I : (0 : Int) < p2 := by omega
                have gp3 : IntKind.i64.wrap ((p2 : Int) - 1) = p3 := by rw [IntWalk.i64_in _ ⟨by omega, by omega⟩]; omega
                have hp3l : p3 < na := by omega
                have hp3I : (p3 : Int) < na := by omega
                obtain ⟨b7, o7, he7, d7⟩ := HRd9.out.one hp3l
                subst he7
                have d8 : w9.cell? ⟨b7, o7 + p3, none⟩ = some (.int .i64 (s.at_.getD p3 0)) := d7
                rw [← hto] at d8
                clear d7 hto hp3
                go_wp2_with fail
                go_meet
                exact ⟨rfl, rfl⟩
            case rest =>
            obtain ⟨rfl, rfl⟩ := hcut
            clear c3 d1 l5 f5 HTo l4
            have l5 : w9.cell? ⟨xb, 18, none⟩ = some (.slice ar j3 cr) := HS9.out.blk.c 18 _ rfl
            have hrl9 : (rootsN s2 Z j3).length ≤ 1000000 := by have := HRl.out; omega
            have hbb9 := HAb8.out
            go_wp2_with (at_builtin; refine app_int ?_ (.tmp 211) (.tmp 213) ?_ w8.heap.size (.slice ar j3 cr) (rootsN s2 Z j3) (HOwn.out.alloc _) ?_ w9.heap.size to_ ?_ (cell_new _ _ _ _ rfl) hrl9 (by simp; omega) ?_; rfl; rfl; rfl; rfl; intro v' w10 hown' hgr hbl; rw [← HRn.out] at hown'; have T10 : Touch (fun kk => w8.heap.size ≤ kk ∧ ((Value.slice ar j3 cr).ownBlock = some kk)) w9 w10 := Touch.grown (((Touch.refl (fun _ => False) w9).alloc (.cells #[.int .i64 to_] 3)).mono (fun _ h _ => h.elim)) hgr (fun kk e _ => ⟨(hlo kk e).1, e⟩); obtain ⟨ae, ce, hv9⟩ := hown'.form; have hrl10 : (rootsN s2 Z (j3 + 1)).length = j3 + 1 := (by simp [rootsN]); rw [hrl10] at hv9; subst hv9; have l6 := cell_t l5 T10 (fun e => by have e1 : w8.heap.size ≤ xb := e.1; omega); have f6 := (BL.touch HS9.out.blk T10 (fun e => by have := e.1; omega)).fz 18; have HO10 := Lib.hid hown'; have HT10 := Lib.hid T10; clear hgr hbl hown' l5 T10)
            go_roundw
            case rel =>
              have hS11 := LS15.root HS9.out HP.out HT10.out (fun kk e => by have := e.1; omega) (fun kk e e2 => by have := hbb9 kk e; have := e2.1; omega) (.slice ae (j3 + 1) ce)
              refine ⟨j3 + 1, .slice ae (j3 + 1) ce, by omega, by go_num, hS11, HO10.out.touch (Touch.set (Only.refl xb w10) 18 _) (fun kk e h => by have := (HO10.out.lt kk e).1; have h2 : kk = xb := h; omega), ?_⟩
              have := HT10.out.size
              simp; omega
            case measure => simp [intOf]; omega
          · obtain rfl : j3 = nz := by omega
            clear l5 f5 hlo hlt3
            rw [← HRl.out] at HS9
            go_wp2_with fail
            go_loopw [220] (fun i wr => ∃ (j4 : Nat) (D : Nat → Bool), j4 ≤ na ∧ i = .int .i64 j4 ∧ Cd wr tb mb vb D ∧ DirtyN 1000 m C s2 j4 D ∧ Only vb w9 wr) (fun i _ => na - (intOf i).toNat)
            case atStart => exact ⟨0, fun _ => false, by omega, rfl, HS9.out.cd, DirtyN.zero _ _ _ _, Only.refl _ _⟩
            case round =>
              obtain ⟨w10, rfl⟩ : ∃ w10 : World, w10 = wr := ⟨_, rfl⟩
              obtain ⟨j4, D, hj4, rfl, hC10, hD10, o10⟩ := hrel
              have hS10 := HS9.out.card HP.out hC10 o10
              have HS10 := Lib.hid hS10
              have HD10 := Lib.hid hD10
              have l4' : w10.cell? ⟨xb, 17, none⟩ = some (.slice ad na cpa) := by rw [← (show (Value.slice ad na cpa) = .slice ad na cpa from rfl)]; exact hS10.blk.c 17 _ rfl
              clear hC10 hD10 hS10 l4 c3
              by_cases hlt4 : j4 < na
              · obtain ⟨a4b, a4o, he4, d4⟩ := (show Rd w10 ad na (intF .i64 fun j => s2.at_.getD j 0) from by have h1 := HS10.out.at_; have e : na = s2.at_.length := by { rw [HAt2.out]; exact HNa.out }; subst e; exact h1.rd.1).one hlt4
                subst he4
                have a4 : w10.cell? ⟨a4b, a4o + j4, none⟩ = some (.int .i64 (s2.at_.getD j4 0)) := d4
                have hjI : (j4 : Int) < na := by omega
                have nAV : a4b ≠ vb := by have := (HS10.out.at_.lt a4b rfl).1; omega
                have nXV : xb ≠ vb := HP.out.nx.2.2.2.2.2
                have hmem4 : s2.at_.getD j4 0 ∈ s2.at_ := by have e := HNa.out; rw [← HAt2.out] at e; rw [List.getD_eq_getElem?_getD, List.getElem?_eq_getElem (by omega)]; exact List.getElem_mem _
                have hob := (HOr.out.hw.in1 ((HOr.out.mem _).1 hmem4)).2.2.1
                have HLd := Lib.hid (show ∀ w', Keeps w10 w' → Calls Try.prog 19 #[.pointer (some ⟨xb, 0, none⟩), .int .i64 (s2.at_.getD j4 0)] w' (Tells (LeadsTo 1000 m C s2.f notOld (s2.at_.getD j4 0)) w') from fun w' kk => lleads_any ba bw 1000 s2.f bt A m cap C w' (HS10.out.st.keep kk) xb (cell_keep (HS10.out.blk.c 2 _ rfl) kk) (cell_keep (HS10.out.blk.c 3 _ rfl) kk) _ hob)
                have HDy := Lib.hid (fun h1 h2 => HD10.out.yes (j := j4) h1 h2)
                have HDn := Lib.hid (fun hn => HD10.out.no (j := j4) hn)
                generalize s2.at_.getD j4 0 = a at *
                have HOl := Lib.hid (fun w => old_any (.pointer (some ⟨xb, 0, none⟩)) a w)
                have HTo := Lib.hid (show oldB a = true → ∀ w', Cd w' tb mb vb D → Calls Try.prog 20 #[.pointer (some ⟨tb, 0, none⟩), .int .i64 a] w' fun e w2 => (∃ b : Bool, e = .returned (.bool b)) ∧ Cd w2 tb mb vb (setD D (cardN a)) ∧ Only vb w' w2 from fun ho w' hc => touch_yes hc a (by unfold oldB at ho; simp at ho; omega) (by unfold oldB at ho; simp at ho; omega))
                clear d4 hmem4 hob
                cases hol : oldB a with
                | false =>
                  rw [hol] at HOl
                  have HDz := Lib.hid (HDn.out (fun h => by have h1 := h.1; rw [hol] at h1; cases h1))
                  clear hol
                  go_wp2_with fail
                  refine Calls.mono (HOl.out _) ?_
                  rintro e w11 ⟨rfl, k11⟩
                  go_wp2_with fail
                  go_roundw
                  case rel => exact ⟨j4 + 1, D, by omega, by go_num, HS10.out.cd.keep k11, HDz.out, Touch.keep o10 k11⟩
                  case measure => simp [intOf]; omega
                | true =>
                  rw [hol] at HOl
                  have HT1 := Lib.hid (HTo.out hol)
                  have HDy1 := Lib.hid (HDy.out hol)
                  clear hol HTo HDy
                  go_wp2_with fail
                  refine Calls.mono (HOl.out _) ?_
                  rintro e w11 ⟨rfl, k11⟩
                  have l4k := cell_keep l4' k11
                  have a4k := cell_keep a4 k11
                  go_wp2_with fail
                  refine Calls.mono (HLd.out _ k11) ?_
                  rintro e w11' ⟨b, rfl, hb, k11'⟩
                  obtain ⟨w11, rfl⟩ : ∃ ww : World, ww = w11' := ⟨_, rfl⟩
                  have k12 := Keeps.trans k11 k11'
                  have l4_ := cell_keep l4k k11'
                  have a4_ := cell_keep a4k k11'
                  have l6_ : w11.cell? ⟨xb, 19, none⟩ = some (.pointer (some ⟨tb, 0, none⟩)) := cell_keep (HS10.out.blk.c 19 _ rfl) k12
                  have hC11 := HS10.out.cd.keep k12
                  have HC11 := Lib.hid hC11
                  clear l4k a4k l4' a4 hC11
                  cases b with
                  | false =>
                    have HDz := Lib.hid (HDn.out (fun h => by have := hb.2 h.2; cases this))
                    clear hb
                    go_wp2_with fail
                    go_roundw
                    case rel => exact ⟨j4 + 1, D, by omega, by go_num, HC11.out, HDz.out, Touch.keep o10 k12⟩
                    case measure => simp [intOf]; omega
                  | true =>
                    have HDz := Lib.hid (HDy1.out (hb.1 rfl))
                    have HTo := Lib.hid (show ∀ w', Keeps w11 w' → Calls Try.prog 20 #[.pointer (some ⟨tb, 0, none⟩), .int .i64 a] w' fun e w2 => (∃ b : Bool, e = .returned (.bool b)) ∧ Cd w2 tb mb vb (setD D (cardN a)) ∧ Only vb w' w2 from fun w' kk => HT1.out _ (HC11.out.keep kk))
                    clear hb
                    go_wp2_with fail
                    refine wp_region_noPanic ?_
                    refine wp_region_held_drew (S := (fun w' => Only vb w11 w')) (by kernel_rfl) (Only.refl _ w11).drew (fun hHeld => ?_)
                    refine' wpAnyH_take (i := 0) ?hi0_7 ?hs0_7 ?hf0_7 ?hr0_7 ?hQ0_7 ?hy0_7 (by assumption) ?rest0_7
                    case hi0_7 => simp only [List.getElem?_toArray, List.getElem?_cons_zero] <;> rfl
                    case hs0_7 => kernel_rfl
                    case hf0_7 => kernel_rfl
                    case hr0_7 => kernel_rfl
                    case hQ0_7 => exact fun _ _ _ h => h
                    case hy0_7 => exact Or.inl ⟨by rfl, fun w hSw => by have q0 := cell_only l4_ hSw nXV; have q1 := cell_only l6_ hSw nXV; have q2 := cell_only a4_ hSw nAV; go_simp <;> (try with_reducible rfl)⟩
                    simp only [Act.put, List.setIfInBounds_toArray, List.set_cons_zero, List.set_cons_succ]
                    refine' wpAnyH_take (i := 1) ?hi1_7 ?hs1_7 ?hf1_7 ?hr1_7 ?hQ1_7 ?hy1_7 (by assumption) ?rest1_7
                    case hi1_7 => simp only [List.getElem?_toArray, List.getElem?_cons_succ, List.getElem?_cons_zero] <;> rfl
                    case hs1_7 => kernel_rfl
                    case hf1_7 => kernel_rfl
                    case hr1_7 => kernel_rfl
                    case hQ1_7 => exact fun _ _ _ h => h
                    case hy1_7 => exact Or.inl ⟨by rfl, fun w hSw => by have q0 := cell_only l4_ hSw nXV; have q1 := cell_only l6_ hSw nXV; have q2 := cell_only a4_ hSw nAV; go_simp <;> (try with_reducible rfl)⟩
                    simp only [Act.put, List.setIfInBounds_toArray, List.set_cons_zero, List.set_cons_succ]
                    refine' wpAnyH_take (i := 2) ?hi2_7 ?hs2_7 ?hf2_7 ?hr2_7 ?hQ2_7 ?hy2_7 (by assumption) ?rest2_7
                    case hi2_7 => simp only [List.getElem?_toArray, List.getElem?_cons_succ, List.getElem?_cons_zero] <;> rfl
                    case hs2_7 => kernel_rfl
                    case hf2_7 => kernel_rfl
                    case hr2_7 => kernel_rfl
                    case hQ2_7 => exact fun _ _ _ h => h
                    case hy2_7 => exact Or.inl ⟨by rfl, fun w hSw => by have q0 := cell_only l4_ hSw nXV; have q1 := cell_only l6_ hSw nXV; have q2 := cell_only a4_ hSw nAV; go_simp <;> (try with_reducible rfl)⟩
                    simp only [Act.put, List.setIfInBounds_toArray, List.set_cons_zero, List.set_cons_succ]
                    refine' wpAnyH_take (i := 3) ?hi3_7 ?hs3_7 ?hf3_7 ?hr3_7 ?hQ3_7 ?hy3_7 (by assumption) ?rest3_7
                    case hi3_7 => simp only [List.getElem?_toArray, List.getElem?_cons_succ, List.getElem?_cons_zero] <;> rfl
                    case hs3_7 => kernel_rfl
                    case hf3_7 => kernel_rfl
                    case hr3_7 => kernel_rfl
                    case hQ3_7 => exact fun _ _ _ h => h
                    case hy3_7 => exact Or.inl ⟨by rfl, fun w hSw => by have q0 := cell_only l4_ hSw nXV; have q1 := cell_only l6_ hSw nXV; have q2 := cell_only a4_ hSw nAV; go_simp <;> (try with_reducible rfl)⟩
                    simp only [Act.put, List.setIfInBounds_toArray, List.set_cons_zero, List.set_cons_succ]
                    refine' wpAnyH_take (i := 4) ?hi4_7 ?hs4_7 ?hf4_7 ?hr4_7 ?hQ4_7 ?hy4_7 (by assumption) ?rest4_7
                    case hi4_7 => simp only [List.getElem?_toArray, List.getElem?_cons_succ, List.getElem?_cons_zero] <;> rfl
                    case hs4_7 => kernel_rfl
                    case hf4_7 => kernel_rfl
                    case hr4_7 => kernel_rfl
                    case hQ4_7 => exact fun _ _ _ h => h
                    case hy4_7 => exact Or.inl ⟨by rfl, fun w hSw => by have q0 := cell_only l4_ hSw nXV; have q1 := cell_only l6_ hSw nXV; have q2 := cell_only a4_ hSw nAV; go_simp <;> (try with_reducible rfl)⟩
                    simp only [Act.put, List.setIfInBounds_toArray, List.set_cons_zero, List.set_cons_succ]
                    refine' wpAnyH_take (i := 5) ?hi5_7 ?hs5_7 ?hf5_7 ?hr5_7 ?hQ5_7 ?hy5_7 (by assumption) ?rest5_7
                    case hi5_7 => simp only [List.getElem?_toArray, List.getElem?_cons_succ, List.getElem?_cons_zero] <;> rfl
                    case hs5_7 => kernel_rfl
                    case hf5_7 => kernel_rfl
                    case hr5_7 => kernel_rfl
                    case hQ5_7 => exact fun _ _ _ h => h
                    case hy5_7 => exact Or.inl ⟨by rfl, fun w hSw => by have q0 := cell_only l4_ hSw nXV; have q1 := cell_only l6_ hSw nXV; have q2 := cell_only a4_ hSw nAV; go_simp <;> (try with_reducible rfl)⟩
                    simp only [Act.put, List.setIfInBounds_toArray, List.set_cons_zero, List.set_cons_succ]
                    refine' wpAnyH_take (i := 6) ?hi6_7 ?hs6_7 ?hf6_7 ?hr6_7 ?hQ6_7 ?hy6_7 (by assumption) ?rest6_7
                    case hi6_7 => simp only [List.getElem?_toArray, List.getElem?_cons_succ, List.getElem?_cons_zero] <;> rfl
                    case hs6_7 => kernel_rfl
                    case hf6_7 => kernel_rfl
                    case hr6_7 => kernel_rfl
                    case hQ6_7 => exact fun _ _ _ h => h
                    case hy6_7 => exact Or.inl ⟨by rfl, fun w hSw => by have q0 := cell_only l4_ hSw nXV; have q1 := cell_only l6_ hSw nXV; have q2 := cell_only a4_ hSw nAV; go_simp <;> (try with_reducible rfl)⟩
                    simp only [Act.put, List.setIfInBounds_toArray, List.set_cons_zero, List.set_cons_succ]
                    refine wpAnyH_ready (rs := [7]) (by kernel_rfl) (by simp) ?_
                    refine AllReadyH.cons rfl (fun K hK => ?_) AllReadyH.nil
                    go_simp
                    with_reducible refine Calls.mono (HTo.out _ (Touch.drew (Touch.refl (fun _ => False) w11))) ?_
                    rintro e w12 ⟨⟨bb, rfl⟩, hC12, o12⟩
                    go_wp2_with fail
                    refine hK.out _ _ (hHeld.trans_ o12) (fun hHeld => ?_)
                    clear hK K
                    refine wpAnyH_done (by kernel_rfl) ?_ _
                    refine NoPanic.normal ?_
                    go_wp2_with fail
                    go_roundw
                    case rel => exact ⟨j4 + 1, _, by omega, by go_num, hC12, HDz.out, Touch.trans (Touch.keep o10 k12) hHeld (fun x hx _ => hx)⟩
                    case measure => simp [intOf]; omega
              · obtain rfl : j4 = na := by omega
                obtain ⟨Y, hY⟩ : ∃ Y, Y = s2.sp (beg15 x0) (end15 x0) := ⟨_, rfl⟩
                have B10 : BL w10 xb 42 [.pointer (some ⟨ba, 0, none⟩), .pointer (some ⟨bt, 0, none⟩), .pointer (some ⟨ba, 0, none⟩), .pointer (some ⟨bt, 0, none⟩), .int .i64 (Y 0).f, .int .i64 (Y 0).t, .int .i64 (Y 0).e, .int .i64 (Y 1).f, .int .i64 (Y 1).t, .int .i64 (Y 1).e, .int .i64 (Y 2).f, .int .i64 (Y 2).t, .int .i64 (Y 2).e, .int .i64 (Y 3).f, .int .i64 (Y 3).t, .int .i64 (Y 3).e, .int .i64 x1, .slice ad j4 cpa, .slice ar j3 cr, .pointer (some ⟨tb, 0, none⟩), .slice Ac m cc] := by rw [hY]; have := HS10.out.blk; rw [HRl.out] at this; exact this
                have HY := Lib.hid hY
                have BR10 := HS10.out.br
                have K10 := HS10.out.k
                clear hY l4' hlt4
                obtain ⟨fs, hund⟩ := und_life
                have HUnd := Lib.hid hund
                clear hund
                go_wp2_with (first | (refine load_bl ?_ 42 (.tmp 9) ?_ B10 ?_ HUnd.out sz_life ?_; rfl; rfl; rfl) | (refine store_bl ?_ 42 (.tmp 2) (.tmp 246) ?_ BR10 ?_ [.pointer (some ⟨ba, 0, none⟩), .pointer (some ⟨bt, 0, none⟩), .pointer (some ⟨ba, 0, none⟩), .pointer (some ⟨bt, 0, none⟩), .int .i64 (Y 0).f, .int .i64 (Y 0).t, .int .i64 (Y 0).e, .int .i64 (Y 1).f, .int .i64 (Y 1).t, .int .i64 (Y 1).e, .int .i64 (Y 2).f, .int .i64 (Y 2).t, .int .i64 (Y 2).e, .int .i64 (Y 3).f, .int .i64 (Y 3).t, .int .i64 (Y 3).e, .int .i64 x1, .slice ad j4 cpa, .slice ar j3 cr, .pointer (some ⟨tb, 0, none⟩), .slice Ac m cc] ?_ sz_life rfl rfl ?_; rfl; rfl; rfl; rfl; intro X BX kX))
                have hK := K10.new kX (by omega)
                have hbo := HS10.out.at_.lt
                have hro := HOwn.out.lt
                have o9X : Touch (fun kk => kk = vb ∨ kk = w.heap.size + 1) w9 X := Touch.trans (o10.mono (fun _ h _ => .inl h)) kX (fun x hx _ => .inr hx)
                have r1 : St X ba bw 1000 s2.f bt A m cap C := HS10.out.st.touch kX (show ¬ ba = w.heap.size + 1 by omega) (show ¬ bw = w.heap.size + 1 by omega) (show ¬ bt = w.heap.size + 1 by omega) (fun b off e h => by have := HP.out.A b off e; have h2 : b = w.heap.size + 1 := h; omega)
                have r2 : OwnInts X base (.slice ad j4 cpa) s2.at_ := HS10.out.at_.touch kX (fun kk e h => by have := (hbo kk e).1; have h2 : kk = w.heap.size + 1 := h; omega)
                have r3 : OwnInts X base (.slice ar j3 cr) (rootsN s2 Z j3) := (HOwn.out.touch o9X (fun kk e h => by have := (hro kk e).1; omega)).mono (by have := HS8.out.z; omega)
                have r4 : Cd X tb mb vb D := HS10.out.cd.touch kX (show ¬ tb = w.heap.size + 1 by omega) (show ¬ mb = w.heap.size + 1 by omega) (show ¬ vb = w.heap.size + 1 by omega)
                have r5 : Dirty 1000 m C s2 D := DirtyN.all (by have e := HNa.out; rw [← HAt2.out] at e; rw [← e]; exact HD10.out)
                have r6 : base ≤ X.heap.size := by have := kX.size; have := HS10.out.z; omega
                have HW2 := Lib.hid (show wd15 m C j T nr R s0 = s2 from by unfold wd15; rw [HX0.out, ← HSe.out, ← HS2.out])
                have HQ : MadeOut w Ac m cc C j T nr R j3 Z s0 s1 (.returned (.tuple #[.agg #[.pointer (some ⟨ba, 0, none⟩), .pointer (some ⟨bt, 0, none⟩), .pointer (some ⟨ba, 0, none⟩), .pointer (some ⟨bt, 0, none⟩), .int .i64 (Y 0).f, .int .i64 (Y 0).t, .int .i64 (Y 0).e, .int .i64 (Y 1).f, .int .i64 (Y 1).t, .int .i64 (Y 1).e, .int .i64 (Y 2).f, .int .i64 (Y 2).t, .int .i64 (Y 2).e, .int .i64 (Y 3).f, .int .i64 (Y 3).t, .int .i64 (Y 3).e, .int .i64 x1, .slice ad j4 cpa, .slice ar j3 cr, .pointer (some ⟨tb, 0, none⟩), .slice Ac m cc], .bool true])) X := .inr ⟨xb, ba, bw, bt, A, cap, .slice ad j4 cpa, .slice ar j3 cr, tb, mb, vb, D, base, by rw [HW2.out, HX0.out, HX1.out, ← HY.out]; rfl, ⟨HP.out, by rw [HW2.out]; exact r1, by rw [HW2.out]; exact r2, by rw [HW2.out]; exact r3, r4, by rw [HW2.out]; exact r5, r6⟩, HGood.out, hK⟩
                clear r1 r2 r3 r4 r5 r6 hbo hro
                exact bodyPost_ret (v := .tuple #[.agg #[.pointer (some ⟨ba, 0, none⟩), .pointer (some ⟨bt, 0, none⟩), .pointer (some ⟨ba, 0, none⟩), .pointer (some ⟨bt, 0, none⟩), .int .i64 (Y 0).f, .int .i64 (Y 0).t, .int .i64 (Y 0).e, .int .i64 (Y 1).f, .int .i64 (Y 1).t, .int .i64 (Y 1).e, .int .i64 (Y 2).f, .int .i64 (Y 2).t, .int .i64 (Y 2).e, .int .i64 (Y 3).f, .int .i64 (Y 3).t, .int .i64 (Y 3).e, .int .i64 x1, .slice ad j4 cpa, .slice ar j3 cr, .pointer (some ⟨tb, 0, none⟩), .slice Ac m cc], .bool true]) (res_life _ Try.results6 rfl rfl BX rfl) rfl HQ
  · have hE1 : newE C m ≠ 0 := fun h => hC0 (HE.1 h)
    have HC0 := Lib.hid hC0
    obtain ⟨x, hx⟩ : ∃ x, newE C m = x := ⟨_, rfl⟩
    rw [hx] at HNw hE1
    have hxb : (x != 0) = true := by simpa using hE1
    clear HE hx hC0 hE1
    go_wp2_with fail
    refine Calls.mono (HNw.out _ K1) ?_
    rintro e w2 ⟨rfl, k2⟩
    have K2 := Keeps.trans K1 k2
    have BR2 := BR.keep k2
    have z2 := k2.size
    go_wp2_with (first | (refine store_bl ?_ 42 (.tmp 2) (.tmp 57) ?_ BR2 ?_ [.pointer none, .pointer none, .pointer none, .pointer none, .int .i64 0, .int .i64 0, .int .i64 0, .int .i64 0, .int .i64 0, .int .i64 0, .int .i64 0, .int .i64 0, .int .i64 0, .int .i64 0, .int .i64 0, .int .i64 0, .int .i64 0, .slice none 0 0, .slice none 0 0, .pointer none, .slice none 0 0] ?_ sz_life rfl rfl ?_; rfl; rfl; rfl; rfl; intro X BX kX))
    refine bodyPost_ret (v := .tuple #[.agg #[.pointer none, .pointer none, .pointer none, .pointer none, .int .i64 0, .int .i64 0, .int .i64 0, .int .i64 0, .int .i64 0, .int .i64 0, .int .i64 0, .int .i64 0, .int .i64 0, .int .i64 0, .int .i64 0, .int .i64 0, .int .i64 0, .slice none 0 0, .slice none 0 0, .pointer none, .slice none 0 0], .bool false]) (res_life _ Try.results6 rfl rfl BX rfl) rfl (.inl ⟨fun hg => HC0.out hg.2.2.2.2.2, rfl, Touch.new K2 kX (by omega)⟩)

end Go.Proofs.Ytabfbgkablbeeaa
