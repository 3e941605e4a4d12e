/- Layer 15's lay. -/
import Derived.Test.YtabfbgkablbeeaaG35
import Derived.Test.YtabfbgkablbeeaaG36
import Derived.Test.YtabfbgkablbeeaaG25
import Derived.Test.YtabfbgkablbeeaaG37
set_option linter.all false

namespace Go.Proofs.Ytabfbgkablbeeaa
open Go.RowKit

theorem rd_one (w : World) (N : Nat) (x : Int) (hN : w.heap.size = N) : Rd (w.alloc (.cells #[.int .i64 x] 3)) (some ⟨N, 0, none⟩) 1 (intF .i64 fun _ => x) := fun _ =>
  ⟨N, 0, rfl, by simp [hN], fun j hj => by
    have : j = 0 := by omega
    subst this
    exact cell_new w (.int .i64 x) 3 N hN⟩
/-- The cells of a life. -/
def lfV (ba bt : Nat) (Y : Nat → Sp) (thr : Int) (av rov dv : Value) (Ac : Option Addr) (m cc : Nat) : List Value :=
  [.pointer (some ⟨ba, 0, none⟩), .pointer (some ⟨bt, 0, none⟩), .pointer (some ⟨ba, 0, none⟩), .pointer (some ⟨bt, 0, none⟩), .int .i64 (Y 0).f, .int .i64 (Y 0).t, .int .i64 (Y 0).e, .int .i64 (Y 1).f, .int .i64 (Y 1).t, .int .i64 (Y 1).e, .int .i64 (Y 2).f, .int .i64 (Y 2).t, .int .i64 (Y 2).e, .int .i64 (Y 3).f, .int .i64 (Y 3).t, .int .i64 (Y 3).e, .int .i64 thr, av, rov, dv, .slice Ac m cc]
theorem lf_top {w : World} {xb ba bt : Nat} {Y : Nat → Sp} {thr : Int} {av rov dv : Value} {Ac : Option Addr} {m cc k o : Nat} (hB : BL w xb 42 (lfV ba bt Y thr av rov dv Ac m cc)) (hk : k < 3) (ho : 4 + 3 * k = o) : w.cell? ⟨xb, o + 1, none⟩ = some (.int .i64 (Y k).t) := by
  have : k = 0 ∨ k = 1 ∨ k = 2 := by omega
  rcases this with rfl | rfl | rfl
  · subst ho; exact hB.c 5 _ rfl
  · subst ho; exact hB.c 8 _ rfl
  · subst ho; exact hB.c 11 _ rfl
theorem lf_fz {w : World} {xb ba bt : Nat} {Y : Nat → Sp} {thr : Int} {av rov dv : Value} {Ac : Option Addr} {m cc k o : Nat} (hB : BL w xb 42 (lfV ba bt Y thr av rov dv Ac m cc)) (z : Int) (hk : k < 3) (ho : 4 + 3 * k = o) :
    BL (w.setCell ⟨xb, o + 1, none⟩ (.int .i64 z)) xb 42 (lfV ba bt (fun j => if j = k then ⟨(Y k).f, z, (Y k).e⟩ else Y j) thr av rov dv Ac m cc) := by
  have : k = 0 ∨ k = 1 ∨ k = 2 := by omega
  rcases this with rfl | rfl | rfl
  · subst ho; exact BL.set hB 5 (.int .i64 z)
  · subst ho; exact BL.set hB 8 (.int .i64 z)
  · subst ho; exact BL.set hB 11 (.int .i64 z)
def LayOut (ba bw n bt : Nat) (A : Option Addr) (m cap : Nat) (C : Nat → Cl) (xb : Nat) (thr : Int) (av rov dv : Value) (Ac : Option Addr) (cc : Nat) (F E : Nat → Int) (s : Lw) (base : Nat) (w : World) (e : Ending) (w' : World) : Prop :=
  ∃ av', e = .returned (.tuple #[]) ∧ St w' ba bw n s.f bt A m cap C ∧ BL w' xb 42 (lfV ba bt (s.sp F E) thr av' rov dv Ac m cc) ∧ OwnInts w' base av' s.at_ ∧ (∀ kk, av'.ownBlock = some kk → av.ownBlock = some kk ∨ w.heap.size ≤ kk) ∧ Touch (fun kk => kk = xb ∨ kk = bw ∨ av.ownBlock = some kk) w w'
set_option maxRecDepth 100000 in
set_option maxHeartbeats 4000000 in
theorem lay15_any (ba bw n : Nat) (bt : Nat) (A : Option Addr) (m cap : Nat) (C : Nat → Cl) (w : World) (F E : Nat → Int) (s : Lw) (h : St w ba bw n s.f bt A m cap C)
    (xb : Nat) (thr : Int) (av rov dv : Value) (Ac : Option Addr) (cc : Nat) (base : Nat) (hB : BL w xb 42 (lfV ba bt (s.sp F E) thr av rov dv Ac m cc)) (hat : OwnInts w base av s.at_) (hAc : Rd w Ac (m * 4) (clF C))
    (hI : LwOk n m C F E s) (hm0 : 0 < m) (hn : ∀ j, j < 3 → E j ≤ n - 1) (n1 : xb ≠ bw) (n4 : xb ≠ ba) (n5 : xb ≠ bt) (n8 : ∀ b off, A = some ⟨b, off, none⟩ → b ≠ xb ∧ b < base) (n9 : xb < base ∧ bw < base ∧ ba < base ∧ bt < base ∧ base ≤ w.heap.size) (hal : s.at_.length ≤ 1000)
    (cl ag wh da : Int) (hcl : 0 ≤ cl ∧ cl ≤ 255) (hag : 0 ≤ ag ∧ ag ≤ 255) (hwh : 0 ≤ wh ∧ wh ≤ 255) (hda : 0 ≤ da ∧ da ≤ 255) :
    Calls Try.prog 16 #[.pointer (some ⟨xb, 0, none⟩), .agg #[.int .u8 cl, .int .u8 ag, .int .u8 wh, .int .u8 da]] w (LayOut ba bw n bt A m cap C xb thr av rov dv Ac cc F E (s.lay C m E cl ag wh da) base w) := by
  have hm := h.tb.le
  have hle := h.ar.le
  obtain ⟨k, hkk⟩ : ∃ k : Nat, regW wh = k := ⟨_, rfl⟩
  have hk3 : k < 3 := by rw [← hkk]; exact regW_lt wh
  have hkw : (if wh % 4 = 3 then 0 else if wh % 4 = 2 then 2 else 1) = k := hkk
  obtain ⟨cp, hcp⟩ : ∃ cp : Nat, cl % m = cp := ⟨(cl % m).toNat, by have := Int.emod_nonneg cl (show (m : Int) ≠ 0 by omega); omega⟩
  obtain ⟨c, hc⟩ : ∃ c : Nat, c = 1 + cp := ⟨_, rfl⟩
  have hcI : 1 + cl % m = c := by rw [hcp]; omega
  obtain ⟨len, hlen⟩ : ∃ len : Int, lenW C c da = len := ⟨_, rfl⟩
  obtain ⟨hc1, hcm, hl0, hl4, hE⟩ := lenW_ok hI.hw.ok (cl := cl) (da := da) hm0 hm hda.1
  rw [hcI] at hc1 hcm hl0 hl4 hE
  rw [hlen] at hl0 hl4 hE
  have hct : cl.tmod (m : Int) = cp := by rw [Int.tmod_eq_emod_of_nonneg hcl.1]; exact hcp
  have HNo := Lib.hid (show E k - s.t k < shW C m c len → s.lay C m E cl ag wh da = s from fun hh => by unfold Lw.lay; rw [hkk, hcI, hlen]; exact if_pos hh)
  have HYes := Lib.hid (show ¬ E k - s.t k < shW C m c len → s.lay C m E cl ag wh da = ⟨lwF s.f C m (s.t k) c len (ag % 8) da, fun j => if j = k then s.t k + shW C m c len else s.t j, fun j => if j = k then s.g k ++ [s.t k] else s.g j, s.at_ ++ [s.t k]⟩ from fun hh => by unfold Lw.lay; rw [hkk, hcI, hlen]; exact if_neg hh)
  generalize s.lay C m E cl ag wh da = s2 at *
  have hlen' : len = if (C cp).kind = 2 then da % 5 else 0 := by rw [← hlen]; unfold lenW; rw [show ((c : Int) - 1).toNat = cp by omega]
  have hsb := sh_bd hI.hw.ok hE
  have hbk : 1 ≤ F k ∧ F k ≤ s.t k ∧ s.t k ≤ E k ∧ E k ≤ n := hI.hw.bd k hk3
  have hnk := hn k hk3
  have HLa := Lib.hid (fun hT hag => headF_at (n := n) (f := s.f) (a := s.t k) (ag := ag % 8) hI.hw.ok hm hE hT hag)
  have HLd := Lib.hid (fun hT => laid_at (n := n) (f := s.f) (a := s.t k) hI.hw.ok hm hE hT)
  have HOk := Lib.hid (lay_ok hI.hw.ok hm hE).2
  have HWd := Lib.hid (show shW C m c len = 2 + shR C m c len + shD C m c len by unfold shW; rw [if_pos hE])
  have HSt := Lib.hid h
  have HAt := Lib.hid hat
  have HBh := Lib.hid hB
  have hxl := hB.lt
  obtain ⟨o, ho⟩ : ∃ o : Nat, 4 + 3 * k = o := ⟨_, rfl⟩
  have p1 : w.cell? ⟨xb, o + 1, none⟩ = some (.int .i64 (s.t k)) := by
    have : k = 0 ∨ k = 1 ∨ k = 2 := by omega
    rcases this with rfl | rfl | rfl
    · subst ho; exact hB.c 5 _ rfl
    · subst ho; exact hB.c 8 _ rfl
    · subst ho; exact hB.c 11 _ rfl
  have p2 : w.cell? ⟨xb, o + 2, none⟩ = some (.int .i64 (E k)) := by
    have : k = 0 ∨ k = 1 ∨ k = 2 := by omega
    rcases this with rfl | rfl | rfl
    · subst ho; exact hB.c 6 _ rfl
    · subst ho; exact hB.c 9 _ rfl
    · subst ho; exact hB.c 12 _ rfl
  obtain ⟨ab, ao, hab, hkd⟩ := hAc.at_ (k := cp) (show cp < m by omega) (by omega)
  subst hab
  have kd : w.cell? ⟨ab, ao + cp * 4, none⟩ = some (.int .i64 (C cp).kind) := by have := hkd 0 (by omega); simpa [clF] using this
  clear hkd
  have HSh := Lib.hid (show ∀ w', Keeps w w' → Calls Try.prog 39 #[.slice (some ⟨ab, ao, none⟩) m cc, .int .i64 c, .int .i64 len] w' fun e w2 => e = .returned (.tuple #[.int .i64 (shR C m c len), .int .i64 (shD C m c len), .int .i64 0]) ∧ Keeps w' w2 from fun w' kk => by
    have hh := rshape_any (some ⟨ab, ao, none⟩) m cc C w' (hAc.keep kk) HSt.out.tb.ok (by omega) c len
    rw [hE] at hh
    exact hh)
  have HLy := Lib.hid (show ∀ w', Keeps w w' → thB n (s.t k) (shW C m c len) = true → Calls Try.prog 40 #[.agg #[.pointer (some ⟨ba, 0, none⟩), .pointer (some ⟨bt, 0, none⟩)], .int .i64 (s.t k), .int .i64 c, .int .i64 len] w' fun e w2 => e = .returned (.int .i64 0) ∧ St w2 ba bw n (layF s.f (s.t k) (shW C m c len) (layW c (C ((c : Int) - 1).toNat).fin) len) bt A m cap C ∧ Only bw w' w2 from fun w' kk hT => lay_yes ba bw n s.f bt A m cap C w' (HSt.out.keep kk) (s.t k) c len hE hT)
  have HI := Lib.hid hI
  generalize htt : s.t k = tt at *
  generalize hte : E k = te at *
  have HTT := Lib.hid htt
  have HTE := Lib.hid hte
  have gcl : IntKind.i64.wrap cl = cl := IntWalk.i64_in _ ⟨by omega, by omega⟩
  have gag : IntKind.i64.wrap ag = ag := IntWalk.i64_in _ ⟨by omega, by omega⟩
  have gda : IntKind.i64.wrap da = da := IntWalk.i64_in _ ⟨by omega, by omega⟩
  have gc : IntKind.i64.wrap (1 + (cp : Int)) = c := by rw [IntWalk.i64_in _ ⟨by omega, by omega⟩]; omega
  have gs1 : IntKind.i64.wrap ((c : Int) - 1) = cp := by rw [IntWalk.i64_in _ ⟨by omega, by omega⟩]; omega
  have gsub : IntKind.i64.wrap (te - tt) = te - tt := IntWalk.i64_in _ ⟨by omega, by omega⟩
  have hmz : ¬ (m = 0) := by omega
  have hcpI : (cp : Int) < m := by omega
  have l2 := hB.c 2 _ rfl
  have l3 := hB.c 3 _ rfl
  have l8 := hB.c 20 _ rfl
  have hcl1 : 1 + cp ≤ c := by omega
  have hcl2 : c ≤ 1 + cp := by omega
  clear htt hte hlen hcp hE hI hat hB h hkk hcI hAc hc
  have HLen := Lib.hid hlen'
  have HKw := Lib.hid hkw
  clear hlen' hkw
  obtain ⟨rs0, rs1, ds0, ds1⟩ := hsb
  go_enter Try.func16, Try.ntmps16
  go_upto_region 1 with fail
  refine named_code (fun w1 hW1 => ?_)
  have K1 : Keeps w w1 := by rw [hW1]; exact (Touch.refl _ w).alloc _
  have BT : BL w1 w.heap.size 29 [.int .u8 cl, .int .u8 ag, .int .u8 wh, .int .u8 da] := by rw [hW1]; exact BL.new1 _ _ _ [.int .u8 cl, .int .u8 ag, .int .u8 wh, .int .u8 da] _ rfl rfl
  have z1 : w1.heap.size = w.heap.size + 1 := by rw [hW1]; simp
  have t0 := BT.c 0 _ rfl
  have t1 := BT.c 1 _ rfl
  have t2 := BT.c 2 _ rfl
  have t3 := BT.c 3 _ rfl
  have kd := cell_keep kd K1
  have nT : w.heap.size ≠ bw := by omega
  have l2 := cell_keep l2 K1
  have l3 := cell_keep l3 K1
  have l8 := cell_keep l8 K1
  have p1 := cell_keep p1 K1
  have p2 := cell_keep p2 K1
  clear hW1
  refine wp_region_noPanic ?_
  refine wp_region_held_drew (S := (fun w' => Keeps w1 w')) (by kernel_rfl) (Touch.refl _ w1).drew (fun hHeld => ?_)
  refine' wpAnyH_take (i := 0) ?hi0_13 ?hs0_13 ?hf0_13 ?hr0_13 ?hQ0_13 ?hy0_13 (by assumption) ?rest0_13
  case hi0_13 => simp only [List.getElem?_toArray, List.getElem?_cons_zero] <;> rfl
  case hs0_13 => kernel_rfl
  case hf0_13 => kernel_rfl
  case hr0_13 => kernel_rfl
  case hQ0_13 => exact fun _ _ _ h => h
  case hy0_13 => exact Or.inl ⟨by rfl, fun w hSw => by have q0 := cell_keep l2 hSw; have q1 := cell_keep l3 hSw; have q8 := cell_keep l8 hSw; have r0 := cell_keep t0 hSw; have r1 := cell_keep t1 hSw; have r2 := cell_keep t2 hSw; have r3 := cell_keep t3 hSw; have s1 := cell_keep p1 hSw; have s2 := cell_keep p2 hSw; go_simp <;> (try with_reducible rfl)⟩
  simp only [Act.put, List.setIfInBounds_toArray, List.set_cons_zero, List.set_cons_succ]
  refine' wpAnyH_take (i := 1) ?hi1_13 ?hs1_13 ?hf1_13 ?hr1_13 ?hQ1_13 ?hy1_13 (by assumption) ?rest1_13
  case hi1_13 => simp only [List.getElem?_toArray, List.getElem?_cons_succ, List.getElem?_cons_zero] <;> rfl
  case hs1_13 => kernel_rfl
  case hf1_13 => kernel_rfl
  case hr1_13 => kernel_rfl
  case hQ1_13 => exact fun _ _ _ h => h
  case hy1_13 => exact Or.inl ⟨by rfl, fun w hSw => by have q0 := cell_keep l2 hSw; have q1 := cell_keep l3 hSw; have q8 := cell_keep l8 hSw; have r0 := cell_keep t0 hSw; have r1 := cell_keep t1 hSw; have r2 := cell_keep t2 hSw; have r3 := cell_keep t3 hSw; have s1 := cell_keep p1 hSw; have s2 := cell_keep p2 hSw; go_simp <;> (try with_reducible rfl)⟩
  simp only [Act.put, List.setIfInBounds_toArray, List.set_cons_zero, List.set_cons_succ]
  refine' wpAnyH_take (i := 2) ?hi2_13 ?hs2_13 ?hf2_13 ?hr2_13 ?hQ2_13 ?hy2_13 (by assumption) ?rest2_13
  case hi2_13 => simp only [List.getElem?_toArray, List.getElem?_cons_succ, List.getElem?_cons_zero] <;> rfl
  case hs2_13 => kernel_rfl
  case hf2_13 => kernel_rfl
  case hr2_13 => kernel_rfl
  case hQ2_13 => exact fun _ _ _ h => h
  case hy2_13 => exact Or.inl ⟨by rfl, fun w hSw => by have q0 := cell_keep l2 hSw; have q1 := cell_keep l3 hSw; have q8 := cell_keep l8 hSw; have r0 := cell_keep t0 hSw; have r1 := cell_keep t1 hSw; have r2 := cell_keep t2 hSw; have r3 := cell_keep t3 hSw; have s1 := cell_keep p1 hSw; have s2 := cell_keep p2 hSw; go_simp <;> (try with_reducible rfl)⟩
  simp only [Act.put, List.setIfInBounds_toArray, List.set_cons_zero, List.set_cons_succ]
  refine' wpAnyH_take (i := 3) ?hi3_13 ?hs3_13 ?hf3_13 ?hr3_13 ?hQ3_13 ?hy3_13 (by assumption) ?rest3_13
  case hi3_13 => simp only [List.getElem?_toArray, List.getElem?_cons_succ, List.getElem?_cons_zero] <;> rfl
  case hs3_13 => kernel_rfl
  case hf3_13 => kernel_rfl
  case hr3_13 => kernel_rfl
  case hQ3_13 => exact fun _ _ _ h => h
  case hy3_13 => exact Or.inl ⟨by rfl, fun w hSw => by have q0 := cell_keep l2 hSw; have q1 := cell_keep l3 hSw; have q8 := cell_keep l8 hSw; have r0 := cell_keep t0 hSw; have r1 := cell_keep t1 hSw; have r2 := cell_keep t2 hSw; have r3 := cell_keep t3 hSw; have s1 := cell_keep p1 hSw; have s2 := cell_keep p2 hSw; go_simp <;> (try with_reducible rfl)⟩
  simp only [Act.put, List.setIfInBounds_toArray, List.set_cons_zero, List.set_cons_succ]
  refine' wpAnyH_take (i := 4) ?hi4_13 ?hs4_13 ?hf4_13 ?hr4_13 ?hQ4_13 ?hy4_13 (by assumption) ?rest4_13
  case hi4_13 => simp only [List.getElem?_toArray, List.getElem?_cons_succ, List.getElem?_cons_zero] <;> rfl
  case hs4_13 => kernel_rfl
  case hf4_13 => kernel_rfl
  case hr4_13 => kernel_rfl
  case hQ4_13 => exact fun _ _ _ h => h
  case hy4_13 => exact Or.inl ⟨by rfl, fun w hSw => by have q0 := cell_keep l2 hSw; have q1 := cell_keep l3 hSw; have q8 := cell_keep l8 hSw; have r0 := cell_keep t0 hSw; have r1 := cell_keep t1 hSw; have r2 := cell_keep t2 hSw; have r3 := cell_keep t3 hSw; have s1 := cell_keep p1 hSw; have s2 := cell_keep p2 hSw; go_simp <;> (try with_reducible rfl)⟩
  simp only [Act.put, List.setIfInBounds_toArray, List.set_cons_zero, List.set_cons_succ]
  refine' wpAnyH_take (i := 5) ?hi5_13 ?hs5_13 ?hf5_13 ?hr5_13 ?hQ5_13 ?hy5_13 (by assumption) ?rest5_13
  case hi5_13 => simp only [List.getElem?_toArray, List.getElem?_cons_succ, List.getElem?_cons_zero] <;> rfl
  case hs5_13 => kernel_rfl
  case hf5_13 => kernel_rfl
  case hr5_13 => kernel_rfl
  case hQ5_13 => exact fun _ _ _ h => h
  case hy5_13 => exact Or.inl ⟨by rfl, fun w hSw => by have q0 := cell_keep l2 hSw; have q1 := cell_keep l3 hSw; have q8 := cell_keep l8 hSw; have r0 := cell_keep t0 hSw; have r1 := cell_keep t1 hSw; have r2 := cell_keep t2 hSw; have r3 := cell_keep t3 hSw; have s1 := cell_keep p1 hSw; have s2 := cell_keep p2 hSw; go_simp <;> (try with_reducible rfl)⟩
  simp only [Act.put, List.setIfInBounds_toArray, List.set_cons_zero, List.set_cons_succ]
  refine' wpAnyH_take (i := 6) ?hi6_13 ?hs6_13 ?hf6_13 ?hr6_13 ?hQ6_13 ?hy6_13 (by assumption) ?rest6_13
  case hi6_13 => simp only [List.getElem?_toArray, List.getElem?_cons_succ, List.getElem?_cons_zero] <;> rfl
  case hs6_13 => kernel_rfl
  case hf6_13 => kernel_rfl
  case hr6_13 => kernel_rfl
  case hQ6_13 => exact fun _ _ _ h => h
  case hy6_13 => exact Or.inl ⟨by rfl, fun w hSw => by have q0 := cell_keep l2 hSw; have q1 := cell_keep l3 hSw; have q8 := cell_keep l8 hSw; have r0 := cell_keep t0 hSw; have r1 := cell_keep t1 hSw; have r2 := cell_keep t2 hSw; have r3 := cell_keep t3 hSw; have s1 := cell_keep p1 hSw; have s2 := cell_keep p2 hSw; go_simp <;> (try with_reducible rfl)⟩
  simp only [Act.put, List.setIfInBounds_toArray, List.set_cons_zero, List.set_cons_succ]
  refine' wpAnyH_take (i := 7) ?hi7_13 ?hs7_13 ?hf7_13 ?hr7_13 ?hQ7_13 ?hy7_13 (by assumption) ?rest7_13
  case hi7_13 => simp only [List.getElem?_toArray, List.getElem?_cons_succ, List.getElem?_cons_zero] <;> rfl
  case hs7_13 => kernel_rfl
  case hf7_13 => kernel_rfl
  case hr7_13 => kernel_rfl
  case hQ7_13 => exact fun _ _ _ h => h
  case hy7_13 => exact Or.inl ⟨by rfl, fun w hSw => by have q0 := cell_keep l2 hSw; have q1 := cell_keep l3 hSw; have q8 := cell_keep l8 hSw; have r0 := cell_keep t0 hSw; have r1 := cell_keep t1 hSw; have r2 := cell_keep t2 hSw; have r3 := cell_keep t3 hSw; have s1 := cell_keep p1 hSw; have s2 := cell_keep p2 hSw; go_simp <;> (try with_reducible rfl)⟩
  simp only [Act.put, List.setIfInBounds_toArray, List.set_cons_zero, List.set_cons_succ]
  refine' wpAnyH_take (i := 8) ?hi8_13 ?hs8_13 ?hf8_13 ?hr8_13 ?hQ8_13 ?hy8_13 (by assumption) ?rest8_13
  case hi8_13 => simp only [List.getElem?_toArray, List.getElem?_cons_succ, List.getElem?_cons_zero] <;> rfl
  case hs8_13 => kernel_rfl
  case hf8_13 => kernel_rfl
  case hr8_13 => kernel_rfl
  case hQ8_13 => exact fun _ _ _ h => h
  case hy8_13 => exact Or.inl ⟨by rfl, fun w hSw => by have q0 := cell_keep l2 hSw; have q1 := cell_keep l3 hSw; have q8 := cell_keep l8 hSw; have r0 := cell_keep t0 hSw; have r1 := cell_keep t1 hSw; have r2 := cell_keep t2 hSw; have r3 := cell_keep t3 hSw; have s1 := cell_keep p1 hSw; have s2 := cell_keep p2 hSw; go_simp <;> (try with_reducible rfl)⟩
  simp only [Act.put, List.setIfInBounds_toArray, List.set_cons_zero, List.set_cons_succ]
  refine' wpAnyH_take (i := 9) ?hi9_13 ?hs9_13 ?hf9_13 ?hr9_13 ?hQ9_13 ?hy9_13 (by assumption) ?rest9_13
  case hi9_13 => simp only [List.getElem?_toArray, List.getElem?_cons_succ, List.getElem?_cons_zero] <;> rfl
  case hs9_13 => kernel_rfl
  case hf9_13 => kernel_rfl
  case hr9_13 => kernel_rfl
  case hQ9_13 => exact fun _ _ _ h => h
  case hy9_13 => exact Or.inl ⟨by rfl, fun w hSw => by have q0 := cell_keep l2 hSw; have q1 := cell_keep l3 hSw; have q8 := cell_keep l8 hSw; have r0 := cell_keep t0 hSw; have r1 := cell_keep t1 hSw; have r2 := cell_keep t2 hSw; have r3 := cell_keep t3 hSw; have s1 := cell_keep p1 hSw; have s2 := cell_keep p2 hSw; go_simp <;> (try with_reducible rfl)⟩
  simp only [Act.put, List.setIfInBounds_toArray, List.set_cons_zero, List.set_cons_succ]
  refine' wpAnyH_take (i := 10) ?hi10_13 ?hs10_13 ?hf10_13 ?hr10_13 ?hQ10_13 ?hy10_13 (by assumption) ?rest10_13
  case hi10_13 => simp only [List.getElem?_toArray, List.getElem?_cons_succ, List.getElem?_cons_zero] <;> rfl
  case hs10_13 => kernel_rfl
  case hf10_13 => kernel_rfl
  case hr10_13 => kernel_rfl
  case hQ10_13 => exact fun _ _ _ h => h
  case hy10_13 => exact Or.inl ⟨by rfl, fun w hSw => by have q0 := cell_keep l2 hSw; have q1 := cell_keep l3 hSw; have q8 := cell_keep l8 hSw; have r0 := cell_keep t0 hSw; have r1 := cell_keep t1 hSw; have r2 := cell_keep t2 hSw; have r3 := cell_keep t3 hSw; have s1 := cell_keep p1 hSw; have s2 := cell_keep p2 hSw; go_simp <;> (try with_reducible rfl)⟩
  simp only [Act.put, List.setIfInBounds_toArray, List.set_cons_zero, List.set_cons_succ]
  refine wpAnyH_done (by kernel_rfl) ?_ _
  refine NoPanic.normal ?_
  try rw [show (1 : Int) + (cp : Int) = c by omega]
  go_upto_if 33 with fail
  go_cut [5] from 34 to 38 (fun v wx => v = .int .i64 len ∧ w1.drew = wx)
  case first =>
    clear HSh HLy HLa HOk HLd HWd HNo HYes HI HSt HAt HBh
    have hlen := HLen.out
    have h5 : da.tmod 5 = da % 5 := Int.tmod_eq_emod_of_nonneg hda.1
    by_cases hk2 : (C cp).kind = 2
    · rw [if_pos hk2] at hlen
      have hkb : ((C cp).kind == 2) = true := by simpa using hk2
      go_wp2_with fail
      go_meet
      exact ⟨by rw [hlen], rfl⟩
    · rw [if_neg hk2] at hlen
      have hkb : ((C cp).kind == 2) = false := by simpa using hk2
      go_wp2_with fail
      go_meet
      exact ⟨by rw [hlen], rfl⟩
  case rest =>
  obtain ⟨rfl, rfl⟩ := hcut
  have KD : Keeps w w1.drew := Touch.drew K1
  clear kd HLen
  go_wp2_with fail
  refine Calls.mono (HSh.out _ KD) ?_
  clear HSh
  rintro e w3 ⟨rfl, k3⟩
  have K3 : Keeps w w3 := Keeps.trans KD k3
  have k13 : Keeps w1 w3 := Keeps.trans (Touch.drew (Touch.refl (fun _ => False) w1)) k3
  have l2 := cell_keep l2 k13
  have l3 := cell_keep l3 k13
  have l8 := cell_keep l8 k13
  have t0 := cell_keep t0 k13
  have t1 := cell_keep t1 k13
  have t2 := cell_keep t2 k13
  have t3 := cell_keep t3 k13
  have p1 := cell_keep p1 k13
  have p2 := cell_keep p2 k13
  have BT3 := BT.keep k13
  have z13 := k13.size
  have z3 := K3.size
  generalize hr_ : shR C m c len = r at *
  generalize hd_ : shD C m c len = d at *
  obtain ⟨wd, hwd⟩ : ∃ wd : Int, wd = 2 + r + d := ⟨_, rfl⟩
  have gw1 : IntKind.i64.wrap (2 + r) = 2 + r := IntWalk.i64_in _ ⟨by omega, by omega⟩
  have gw2 : IntKind.i64.wrap (2 + r + d) = wd := by rw [hwd]; exact IntWalk.i64_in _ ⟨by omega, by omega⟩
  have hw2 : 2 ≤ wd ∧ wd ≤ 92 := by omega
  have HW2 := Lib.hid (show shW C m c len = wd by rw [HWd.out, hwd])
  have HR := Lib.hid hr_
  have HD_ := Lib.hid hd_
  have HWd2 := Lib.hid hwd
  rw [HW2.out] at HLy HLa HNo HYes HLd
  clear hwd BT k13 hr_ hd_ HWd
  obtain ⟨o1, ho1⟩ : ∃ o1 : Nat, o1 = if wh % 4 = 2 then 10 else 7 := ⟨_, rfl⟩
  have HO1 := Lib.hid ho1
  have HO := Lib.hid ho
  clear ho1 ho
  go_upto_if 60 with fail
  go_cut [10] from 61 to 65 (fun v wx => v = .pointer (some ⟨xb, o1, none⟩) ∧ w3 = wx)
  case first =>
    clear HLy HLa HOk HLd HNo HYes HI HSt HAt HBh
    have ho1 := HO1.out
    by_cases e : wh % 4 = 2
    · rw [if_pos e] at ho1
      subst ho1
      go_wp2_with fail
      go_meet
      exact ⟨rfl, rfl⟩
    · rw [if_neg e] at ho1
      subst ho1
      have g2 : (wh % 4 == 2) = false := by simpa using e
      clear e
      go_wp2_with fail
      go_meet
      exact ⟨rfl, rfl⟩
  case rest =>
  obtain ⟨rfl, rfl⟩ := hcut
  go_upto_if 68 with fail
  go_cut [10] from 69 to 73 (fun v wx => v = .pointer (some ⟨xb, o, none⟩) ∧ w3 = wx)
  case first =>
    clear HLy HLa HOk HLd HNo HYes HI HSt HAt HBh
    have ho1 := HO1.out
    have hk := HKw.out
    have ho := HO.out
    by_cases e : wh % 4 = 3
    · rw [if_pos e] at hk
      obtain rfl : o = 4 := by omega
      clear ho1 hk ho
      go_wp2_with fail
      go_meet
      exact ⟨rfl, rfl⟩
    · rw [if_neg e] at hk
      obtain rfl : o = o1 := by rw [ho1]; split at hk <;> (rename_i h; simp only [h, if_true, if_false]; omega)
      have g2 : (wh % 4 == 3) = false := by simpa using e
      clear e ho1 hk ho
      go_wp2_with fail
      go_meet
      exact ⟨rfl, rfl⟩
  case rest =>
  obtain ⟨rfl, rfl⟩ := hcut
  by_cases hroom : te - tt < wd
  · go_wp2_with fail
    refine wp_region_noPanic ?_
    refine wp_region_held_drew (S := (fun w' => Keeps w3 w')) (by kernel_rfl) (Touch.refl _ w3).drew (fun hHeld => ?_)
    refine' wpAnyH_take (i := 0) ?hi0_12 ?hs0_12 ?hf0_12 ?hr0_12 ?hQ0_12 ?hy0_12 (by assumption) ?rest0_12
    case hi0_12 => simp only [List.getElem?_toArray, List.getElem?_cons_zero] <;> rfl
    case hs0_12 => kernel_rfl
    case hf0_12 => kernel_rfl
    case hr0_12 => kernel_rfl
    case hQ0_12 => exact fun _ _ _ h => h
    case hy0_12 => exact Or.inl ⟨by rfl, fun w hSw => by have q0 := cell_keep l2 hSw; have q1 := cell_keep l3 hSw; have q8 := cell_keep l8 hSw; have r0 := cell_keep t0 hSw; have r1 := cell_keep t1 hSw; have r2 := cell_keep t2 hSw; have r3 := cell_keep t3 hSw; have s1 := cell_keep p1 hSw; have s2 := cell_keep p2 hSw; go_simp <;> (try with_reducible rfl)⟩
    simp only [Act.put, List.setIfInBounds_toArray, List.set_cons_zero, List.set_cons_succ]
    refine' wpAnyH_take (i := 1) ?hi1_12 ?hs1_12 ?hf1_12 ?hr1_12 ?hQ1_12 ?hy1_12 (by assumption) ?rest1_12
    case hi1_12 => simp only [List.getElem?_toArray, List.getElem?_cons_succ, List.getElem?_cons_zero] <;> rfl
    case hs1_12 => kernel_rfl
    case hf1_12 => kernel_rfl
    case hr1_12 => kernel_rfl
    case hQ1_12 => exact fun _ _ _ h => h
    case hy1_12 => exact Or.inl ⟨by rfl, fun w hSw => by have q0 := cell_keep l2 hSw; have q1 := cell_keep l3 hSw; have q8 := cell_keep l8 hSw; have r0 := cell_keep t0 hSw; have r1 := cell_keep t1 hSw; have r2 := cell_keep t2 hSw; have r3 := cell_keep t3 hSw; have s1 := cell_keep p1 hSw; have s2 := cell_keep p2 hSw; go_simp <;> (try with_reducible rfl)⟩
    simp only [Act.put, List.setIfInBounds_toArray, List.set_cons_zero, List.set_cons_succ]
    refine' wpAnyH_take (i := 2) ?hi2_12 ?hs2_12 ?hf2_12 ?hr2_12 ?hQ2_12 ?hy2_12 (by assumption) ?rest2_12
    case hi2_12 => simp only [List.getElem?_toArray, List.getElem?_cons_succ, List.getElem?_cons_zero] <;> rfl
    case hs2_12 => kernel_rfl
    case hf2_12 => kernel_rfl
    case hr2_12 => kernel_rfl
    case hQ2_12 => exact fun _ _ _ h => h
    case hy2_12 => exact Or.inl ⟨by rfl, fun w hSw => by have q0 := cell_keep l2 hSw; have q1 := cell_keep l3 hSw; have q8 := cell_keep l8 hSw; have r0 := cell_keep t0 hSw; have r1 := cell_keep t1 hSw; have r2 := cell_keep t2 hSw; have r3 := cell_keep t3 hSw; have s1 := cell_keep p1 hSw; have s2 := cell_keep p2 hSw; go_simp <;> (try with_reducible rfl)⟩
    simp only [Act.put, List.setIfInBounds_toArray, List.set_cons_zero, List.set_cons_succ]
    refine' wpAnyH_take (i := 3) ?hi3_12 ?hs3_12 ?hf3_12 ?hr3_12 ?hQ3_12 ?hy3_12 (by assumption) ?rest3_12
    case hi3_12 => simp only [List.getElem?_toArray, List.getElem?_cons_succ, List.getElem?_cons_zero] <;> rfl
    case hs3_12 => kernel_rfl
    case hf3_12 => kernel_rfl
    case hr3_12 => kernel_rfl
    case hQ3_12 => exact fun _ _ _ h => h
    case hy3_12 => exact Or.inl ⟨by rfl, fun w hSw => by have q0 := cell_keep l2 hSw; have q1 := cell_keep l3 hSw; have q8 := cell_keep l8 hSw; have r0 := cell_keep t0 hSw; have r1 := cell_keep t1 hSw; have r2 := cell_keep t2 hSw; have r3 := cell_keep t3 hSw; have s1 := cell_keep p1 hSw; have s2 := cell_keep p2 hSw; go_simp <;> (try with_reducible rfl)⟩
    simp only [Act.put, List.setIfInBounds_toArray, List.set_cons_zero, List.set_cons_succ]
    refine' wpAnyH_take (i := 4) ?hi4_12 ?hs4_12 ?hf4_12 ?hr4_12 ?hQ4_12 ?hy4_12 (by assumption) ?rest4_12
    case hi4_12 => simp only [List.getElem?_toArray, List.getElem?_cons_succ, List.getElem?_cons_zero] <;> rfl
    case hs4_12 => kernel_rfl
    case hf4_12 => kernel_rfl
    case hr4_12 => kernel_rfl
    case hQ4_12 => exact fun _ _ _ h => h
    case hy4_12 => exact Or.inl ⟨by rfl, fun w hSw => by have q0 := cell_keep l2 hSw; have q1 := cell_keep l3 hSw; have q8 := cell_keep l8 hSw; have r0 := cell_keep t0 hSw; have r1 := cell_keep t1 hSw; have r2 := cell_keep t2 hSw; have r3 := cell_keep t3 hSw; have s1 := cell_keep p1 hSw; have s2 := cell_keep p2 hSw; go_simp <;> (try with_reducible rfl)⟩
    simp only [Act.put, List.setIfInBounds_toArray, List.set_cons_zero, List.set_cons_succ]
    refine' wpAnyH_take (i := 5) ?hi5_12 ?hs5_12 ?hf5_12 ?hr5_12 ?hQ5_12 ?hy5_12 (by assumption) ?rest5_12
    case hi5_12 => simp only [List.getElem?_toArray, List.getElem?_cons_succ, List.getElem?_cons_zero] <;> rfl
    case hs5_12 => kernel_rfl
    case hf5_12 => kernel_rfl
    case hr5_12 => kernel_rfl
    case hQ5_12 => exact fun _ _ _ h => h
    case hy5_12 => exact Or.inl ⟨by rfl, fun w hSw => by have q0 := cell_keep l2 hSw; have q1 := cell_keep l3 hSw; have q8 := cell_keep l8 hSw; have r0 := cell_keep t0 hSw; have r1 := cell_keep t1 hSw; have r2 := cell_keep t2 hSw; have r3 := cell_keep t3 hSw; have s1 := cell_keep p1 hSw; have s2 := cell_keep p2 hSw; go_simp <;> (try with_reducible rfl)⟩
    simp only [Act.put, List.setIfInBounds_toArray, List.set_cons_zero, List.set_cons_succ]
    refine' wpAnyH_take (i := 6) ?hi6_12 ?hs6_12 ?hf6_12 ?hr6_12 ?hQ6_12 ?hy6_12 (by assumption) ?rest6_12
    case hi6_12 => simp only [List.getElem?_toArray, List.getElem?_cons_succ, List.getElem?_cons_zero] <;> rfl
    case hs6_12 => kernel_rfl
    case hf6_12 => kernel_rfl
    case hr6_12 => kernel_rfl
    case hQ6_12 => exact fun _ _ _ h => h
    case hy6_12 => exact Or.inl ⟨by rfl, fun w hSw => by have q0 := cell_keep l2 hSw; have q1 := cell_keep l3 hSw; have q8 := cell_keep l8 hSw; have r0 := cell_keep t0 hSw; have r1 := cell_keep t1 hSw; have r2 := cell_keep t2 hSw; have r3 := cell_keep t3 hSw; have s1 := cell_keep p1 hSw; have s2 := cell_keep p2 hSw; go_simp <;> (try with_reducible rfl)⟩
    simp only [Act.put, List.setIfInBounds_toArray, List.set_cons_zero, List.set_cons_succ]
    refine' wpAnyH_take (i := 7) ?hi7_12 ?hs7_12 ?hf7_12 ?hr7_12 ?hQ7_12 ?hy7_12 (by assumption) ?rest7_12
    case hi7_12 => simp only [List.getElem?_toArray, List.getElem?_cons_succ, List.getElem?_cons_zero] <;> rfl
    case hs7_12 => kernel_rfl
    case hf7_12 => kernel_rfl
    case hr7_12 => kernel_rfl
    case hQ7_12 => exact fun _ _ _ h => h
    case hy7_12 => exact Or.inl ⟨by rfl, fun w hSw => by have q0 := cell_keep l2 hSw; have q1 := cell_keep l3 hSw; have q8 := cell_keep l8 hSw; have r0 := cell_keep t0 hSw; have r1 := cell_keep t1 hSw; have r2 := cell_keep t2 hSw; have r3 := cell_keep t3 hSw; have s1 := cell_keep p1 hSw; have s2 := cell_keep p2 hSw; go_simp <;> (try with_reducible rfl)⟩
    simp only [Act.put, List.setIfInBounds_toArray, List.set_cons_zero, List.set_cons_succ]
    refine' wpAnyH_take (i := 8) ?hi8_12 ?hs8_12 ?hf8_12 ?hr8_12 ?hQ8_12 ?hy8_12 (by assumption) ?rest8_12
    case hi8_12 => simp only [List.getElem?_toArray, List.getElem?_cons_succ, List.getElem?_cons_zero] <;> rfl
    case hs8_12 => kernel_rfl
    case hf8_12 => kernel_rfl
    case hr8_12 => kernel_rfl
    case hQ8_12 => exact fun _ _ _ h => h
    case hy8_12 => exact Or.inl ⟨by rfl, fun w hSw => by have q0 := cell_keep l2 hSw; have q1 := cell_keep l3 hSw; have q8 := cell_keep l8 hSw; have r0 := cell_keep t0 hSw; have r1 := cell_keep t1 hSw; have r2 := cell_keep t2 hSw; have r3 := cell_keep t3 hSw; have s1 := cell_keep p1 hSw; have s2 := cell_keep p2 hSw; go_simp <;> (try with_reducible rfl)⟩
    simp only [Act.put, List.setIfInBounds_toArray, List.set_cons_zero, List.set_cons_succ]
    refine' wpAnyH_take (i := 9) ?hi9_12 ?hs9_12 ?hf9_12 ?hr9_12 ?hQ9_12 ?hy9_12 (by assumption) ?rest9_12
    case hi9_12 => simp only [List.getElem?_toArray, List.getElem?_cons_succ, List.getElem?_cons_zero] <;> rfl
    case hs9_12 => kernel_rfl
    case hf9_12 => kernel_rfl
    case hr9_12 => kernel_rfl
    case hQ9_12 => exact fun _ _ _ h => h
    case hy9_12 => exact Or.inl ⟨by rfl, fun w hSw => by have q0 := cell_keep l2 hSw; have q1 := cell_keep l3 hSw; have q8 := cell_keep l8 hSw; have r0 := cell_keep t0 hSw; have r1 := cell_keep t1 hSw; have r2 := cell_keep t2 hSw; have r3 := cell_keep t3 hSw; have s1 := cell_keep p1 hSw; have s2 := cell_keep p2 hSw; go_simp <;> (try with_reducible rfl)⟩
    simp only [Act.put, List.setIfInBounds_toArray, List.set_cons_zero, List.set_cons_succ]
    refine' wpAnyH_take (i := 10) ?hi10_12 ?hs10_12 ?hf10_12 ?hr10_12 ?hQ10_12 ?hy10_12 (by assumption) ?rest10_12
    case hi10_12 => simp only [List.getElem?_toArray, List.getElem?_cons_succ, List.getElem?_cons_zero] <;> rfl
    case hs10_12 => kernel_rfl
    case hf10_12 => kernel_rfl
    case hr10_12 => kernel_rfl
    case hQ10_12 => exact fun _ _ _ h => h
    case hy10_12 => exact Or.inl ⟨by rfl, fun w hSw => by have q0 := cell_keep l2 hSw; have q1 := cell_keep l3 hSw; have q8 := cell_keep l8 hSw; have r0 := cell_keep t0 hSw; have r1 := cell_keep t1 hSw; have r2 := cell_keep t2 hSw; have r3 := cell_keep t3 hSw; have s1 := cell_keep p1 hSw; have s2 := cell_keep p2 hSw; go_simp <;> (try with_reducible rfl)⟩
    simp only [Act.put, List.setIfInBounds_toArray, List.set_cons_zero, List.set_cons_succ]
    refine' wpAnyH_take (i := 11) ?hi11_12 ?hs11_12 ?hf11_12 ?hr11_12 ?hQ11_12 ?hy11_12 (by assumption) ?rest11_12
    case hi11_12 => simp only [List.getElem?_toArray, List.getElem?_cons_succ, List.getElem?_cons_zero] <;> rfl
    case hs11_12 => kernel_rfl
    case hf11_12 => kernel_rfl
    case hr11_12 => kernel_rfl
    case hQ11_12 => exact fun _ _ _ h => h
    case hy11_12 => exact Or.inl ⟨by rfl, fun w hSw => by have q0 := cell_keep l2 hSw; have q1 := cell_keep l3 hSw; have q8 := cell_keep l8 hSw; have r0 := cell_keep t0 hSw; have r1 := cell_keep t1 hSw; have r2 := cell_keep t2 hSw; have r3 := cell_keep t3 hSw; have s1 := cell_keep p1 hSw; have s2 := cell_keep p2 hSw; go_simp <;> (try with_reducible rfl)⟩
    simp only [Act.put, List.setIfInBounds_toArray, List.set_cons_zero, List.set_cons_succ]
    refine' wpAnyH_take (i := 12) ?hi12_12 ?hs12_12 ?hf12_12 ?hr12_12 ?hQ12_12 ?hy12_12 (by assumption) ?rest12_12
    case hi12_12 => simp only [List.getElem?_toArray, List.getElem?_cons_succ, List.getElem?_cons_zero] <;> rfl
    case hs12_12 => kernel_rfl
    case hf12_12 => kernel_rfl
    case hr12_12 => kernel_rfl
    case hQ12_12 => exact fun _ _ _ h => h
    case hy12_12 => exact Or.inr ⟨by kernel_rfl, rfl⟩
    simp only [Act.put, List.setIfInBounds_toArray, List.set_cons_zero, List.set_cons_succ]
    refine' wpAnyH_take (i := 13) ?hi13_12 ?hs13_12 ?hf13_12 ?hr13_12 ?hQ13_12 ?hy13_12 (by assumption) ?rest13_12
    case hi13_12 => simp only [List.getElem?_toArray, List.getElem?_cons_succ, List.getElem?_cons_zero] <;> rfl
    case hs13_12 => kernel_rfl
    case hf13_12 => kernel_rfl
    case hr13_12 => kernel_rfl
    case hQ13_12 => exact fun _ _ _ h => h
    case hy13_12 => exact Or.inr ⟨by kernel_rfl, rfl⟩
    simp only [Act.put, List.setIfInBounds_toArray, List.set_cons_zero, List.set_cons_succ]
    refine' wpAnyH_take (i := 14) ?hi14_12 ?hs14_12 ?hf14_12 ?hr14_12 ?hQ14_12 ?hy14_12 (by assumption) ?rest14_12
    case hi14_12 => simp only [List.getElem?_toArray, List.getElem?_cons_succ, List.getElem?_cons_zero] <;> rfl
    case hs14_12 => kernel_rfl
    case hf14_12 => kernel_rfl
    case hr14_12 => kernel_rfl
    case hQ14_12 => exact fun _ _ _ h => h
    case hy14_12 => exact Or.inr ⟨by kernel_rfl, rfl⟩
    simp only [Act.put, List.setIfInBounds_toArray, List.set_cons_zero, List.set_cons_succ]
    refine' wpAnyH_take (i := 15) ?hi15_12 ?hs15_12 ?hf15_12 ?hr15_12 ?hQ15_12 ?hy15_12 (by assumption) ?rest15_12
    case hi15_12 => simp only [List.getElem?_toArray, List.getElem?_cons_succ, List.getElem?_cons_zero] <;> rfl
    case hs15_12 => kernel_rfl
    case hf15_12 => kernel_rfl
    case hr15_12 => kernel_rfl
    case hQ15_12 => exact fun _ _ _ h => h
    case hy15_12 => exact Or.inr ⟨by kernel_rfl, rfl⟩
    simp only [Act.put, List.setIfInBounds_toArray, List.set_cons_zero, List.set_cons_succ]
    refine' wpAnyH_take (i := 16) ?hi16_12 ?hs16_12 ?hf16_12 ?hr16_12 ?hQ16_12 ?hy16_12 (by assumption) ?rest16_12
    case hi16_12 => simp only [List.getElem?_toArray, List.getElem?_cons_succ, List.getElem?_cons_zero] <;> rfl
    case hs16_12 => kernel_rfl
    case hf16_12 => kernel_rfl
    case hr16_12 => kernel_rfl
    case hQ16_12 => exact fun _ _ _ h => h
    case hy16_12 => exact Or.inr ⟨by kernel_rfl, rfl⟩
    simp only [Act.put, List.setIfInBounds_toArray, List.set_cons_zero, List.set_cons_succ]
    refine' wpAnyH_take (i := 17) ?hi17_12 ?hs17_12 ?hf17_12 ?hr17_12 ?hQ17_12 ?hy17_12 (by assumption) ?rest17_12
    case hi17_12 => simp only [List.getElem?_toArray, List.getElem?_cons_succ, List.getElem?_cons_zero] <;> rfl
    case hs17_12 => kernel_rfl
    case hf17_12 => kernel_rfl
    case hr17_12 => kernel_rfl
    case hQ17_12 => exact fun _ _ _ h => h
    case hy17_12 => exact Or.inr ⟨by kernel_rfl, rfl⟩
    simp only [Act.put, List.setIfInBounds_toArray, List.set_cons_zero, List.set_cons_succ]
    refine' wpAnyH_take (i := 18) ?hi18_12 ?hs18_12 ?hf18_12 ?hr18_12 ?hQ18_12 ?hy18_12 (by assumption) ?rest18_12
    case hi18_12 => simp only [List.getElem?_toArray, List.getElem?_cons_succ, List.getElem?_cons_zero] <;> rfl
    case hs18_12 => kernel_rfl
    case hf18_12 => kernel_rfl
    case hr18_12 => kernel_rfl
    case hQ18_12 => exact fun _ _ _ h => h
    case hy18_12 => exact Or.inr ⟨by kernel_rfl, rfl⟩
    simp only [Act.put, List.setIfInBounds_toArray, List.set_cons_zero, List.set_cons_succ]
    refine' wpAnyH_take (i := 19) ?hi19_12 ?hs19_12 ?hf19_12 ?hr19_12 ?hQ19_12 ?hy19_12 (by assumption) ?rest19_12
    case hi19_12 => simp only [List.getElem?_toArray, List.getElem?_cons_succ, List.getElem?_cons_zero] <;> rfl
    case hs19_12 => kernel_rfl
    case hf19_12 => kernel_rfl
    case hr19_12 => kernel_rfl
    case hQ19_12 => exact fun _ _ _ h => h
    case hy19_12 => exact Or.inr ⟨by kernel_rfl, rfl⟩
    simp only [Act.put, List.setIfInBounds_toArray, List.set_cons_zero, List.set_cons_succ]
    refine' wpAnyH_take (i := 20) ?hi20_12 ?hs20_12 ?hf20_12 ?hr20_12 ?hQ20_12 ?hy20_12 (by assumption) ?rest20_12
    case hi20_12 => simp only [List.getElem?_toArray, List.getElem?_cons_succ, List.getElem?_cons_zero] <;> rfl
    case hs20_12 => kernel_rfl
    case hf20_12 => kernel_rfl
    case hr20_12 => kernel_rfl
    case hQ20_12 => exact fun _ _ _ h => h
    case hy20_12 => exact Or.inr ⟨by kernel_rfl, rfl⟩
    simp only [Act.put, List.setIfInBounds_toArray, List.set_cons_zero, List.set_cons_succ]
    refine' wpAnyH_take (i := 21) ?hi21_12 ?hs21_12 ?hf21_12 ?hr21_12 ?hQ21_12 ?hy21_12 (by assumption) ?rest21_12
    case hi21_12 => simp only [List.getElem?_toArray, List.getElem?_cons_succ, List.getElem?_cons_zero] <;> rfl
    case hs21_12 => kernel_rfl
    case hf21_12 => kernel_rfl
    case hr21_12 => kernel_rfl
    case hQ21_12 => exact fun _ _ _ h => h
    case hy21_12 => exact Or.inr ⟨by kernel_rfl, rfl⟩
    simp only [Act.put, List.setIfInBounds_toArray, List.set_cons_zero, List.set_cons_succ]
    refine' wpAnyH_take (i := 22) ?hi22_12 ?hs22_12 ?hf22_12 ?hr22_12 ?hQ22_12 ?hy22_12 (by assumption) ?rest22_12
    case hi22_12 => simp only [List.getElem?_toArray, List.getElem?_cons_succ, List.getElem?_cons_zero] <;> rfl
    case hs22_12 => kernel_rfl
    case hf22_12 => kernel_rfl
    case hr22_12 => kernel_rfl
    case hQ22_12 => exact fun _ _ _ h => h
    case hy22_12 => exact Or.inr ⟨by kernel_rfl, rfl⟩
    simp only [Act.put, List.setIfInBounds_toArray, List.set_cons_zero, List.set_cons_succ]
    refine' wpAnyH_take (i := 23) ?hi23_12 ?hs23_12 ?hf23_12 ?hr23_12 ?hQ23_12 ?hy23_12 (by assumption) ?rest23_12
    case hi23_12 => simp only [List.getElem?_toArray, List.getElem?_cons_succ, List.getElem?_cons_zero] <;> rfl
    case hs23_12 => kernel_rfl
    case hf23_12 => kernel_rfl
    case hr23_12 => kernel_rfl
    case hQ23_12 => exact fun _ _ _ h => h
    case hy23_12 => exact Or.inr ⟨by kernel_rfl, rfl⟩
    simp only [Act.put, List.setIfInBounds_toArray, List.set_cons_zero, List.set_cons_succ]
    refine' wpAnyH_take (i := 24) ?hi24_12 ?hs24_12 ?hf24_12 ?hr24_12 ?hQ24_12 ?hy24_12 (by assumption) ?rest24_12
    case hi24_12 => simp only [List.getElem?_toArray, List.getElem?_cons_succ, List.getElem?_cons_zero] <;> rfl
    case hs24_12 => kernel_rfl
    case hf24_12 => kernel_rfl
    case hr24_12 => kernel_rfl
    case hQ24_12 => exact fun _ _ _ h => h
    case hy24_12 => exact Or.inl ⟨by rfl, fun w hSw => by go_simp <;> (try with_reducible rfl)⟩
    simp only [Act.put, List.setIfInBounds_toArray, List.set_cons_zero, List.set_cons_succ]
    refine wpAnyH_done (by kernel_rfl) ?_ _
    refine NoPanic.normal ?_
    go_wp2_with fail
    go_returns
    have K4 : Keeps w w3.drew := Touch.drew K3
    rw [HNo.out hroom]
    exact ⟨av, rfl, HSt.out.keep K4, HBh.out.keep K4, HAt.out.touch K4 (fun _ _ h => h), fun _ h => .inl h, K4.mono (fun _ h _ => h.elim)⟩
  · have hroomd : decide (te - tt < wd) = false := decide_eq_false hroom
    have hTh : thB n tt wd = true := thB_true.2 ⟨by omega, by omega, by omega, by omega⟩
    go_wp2_with fail
    refine wp_region_noPanic ?_
    refine wp_region_held_drew (S := (fun w' => Only bw w3 w')) (by kernel_rfl) (Only.refl _ w3).drew (fun hHeld => ?_)
    refine' wpAnyH_take (i := 0) ?hi0_11 ?hs0_11 ?hf0_11 ?hr0_11 ?hQ0_11 ?hy0_11 (by assumption) ?rest0_11
    case hi0_11 => simp only [List.getElem?_toArray, List.getElem?_cons_zero] <;> rfl
    case hs0_11 => kernel_rfl
    case hf0_11 => kernel_rfl
    case hr0_11 => kernel_rfl
    case hQ0_11 => exact fun _ _ _ h => h
    case hy0_11 => exact Or.inl ⟨by rfl, fun w hSw => by have q0 := cell_only l2 hSw n1; have q1 := cell_only l3 hSw n1; have q8 := cell_only l8 hSw n1; have r0 := cell_only t0 hSw nT; have r1 := cell_only t1 hSw nT; have r2 := cell_only t2 hSw nT; have r3 := cell_only t3 hSw nT; have s1 := cell_only p1 hSw n1; have s2 := cell_only p2 hSw n1; go_simp <;> (try with_reducible rfl)⟩
    simp only [Act.put, List.setIfInBounds_toArray, List.set_cons_zero, List.set_cons_succ]
    refine' wpAnyH_take (i := 1) ?hi1_11 ?hs1_11 ?hf1_11 ?hr1_11 ?hQ1_11 ?hy1_11 (by assumption) ?rest1_11
    case hi1_11 => simp only [List.getElem?_toArray, List.getElem?_cons_succ, List.getElem?_cons_zero] <;> rfl
    case hs1_11 => kernel_rfl
    case hf1_11 => kernel_rfl
    case hr1_11 => kernel_rfl
    case hQ1_11 => exact fun _ _ _ h => h
    case hy1_11 => exact Or.inl ⟨by rfl, fun w hSw => by have q0 := cell_only l2 hSw n1; have q1 := cell_only l3 hSw n1; have q8 := cell_only l8 hSw n1; have r0 := cell_only t0 hSw nT; have r1 := cell_only t1 hSw nT; have r2 := cell_only t2 hSw nT; have r3 := cell_only t3 hSw nT; have s1 := cell_only p1 hSw n1; have s2 := cell_only p2 hSw n1; go_simp <;> (try with_reducible rfl)⟩
    simp only [Act.put, List.setIfInBounds_toArray, List.set_cons_zero, List.set_cons_succ]
    refine' wpAnyH_take (i := 2) ?hi2_11 ?hs2_11 ?hf2_11 ?hr2_11 ?hQ2_11 ?hy2_11 (by assumption) ?rest2_11
    case hi2_11 => simp only [List.getElem?_toArray, List.getElem?_cons_succ, List.getElem?_cons_zero] <;> rfl
    case hs2_11 => kernel_rfl
    case hf2_11 => kernel_rfl
    case hr2_11 => kernel_rfl
    case hQ2_11 => exact fun _ _ _ h => h
    case hy2_11 => exact Or.inl ⟨by rfl, fun w hSw => by have q0 := cell_only l2 hSw n1; have q1 := cell_only l3 hSw n1; have q8 := cell_only l8 hSw n1; have r0 := cell_only t0 hSw nT; have r1 := cell_only t1 hSw nT; have r2 := cell_only t2 hSw nT; have r3 := cell_only t3 hSw nT; have s1 := cell_only p1 hSw n1; have s2 := cell_only p2 hSw n1; go_simp <;> (try with_reducible rfl)⟩
    simp only [Act.put, List.setIfInBounds_toArray, List.set_cons_zero, List.set_cons_succ]
    refine' wpAnyH_take (i := 3) ?hi3_11 ?hs3_11 ?hf3_11 ?hr3_11 ?hQ3_11 ?hy3_11 (by assumption) ?rest3_11
    case hi3_11 => simp only [List.getElem?_toArray, List.getElem?_cons_succ, List.getElem?_cons_zero] <;> rfl
    case hs3_11 => kernel_rfl
    case hf3_11 => kernel_rfl
    case hr3_11 => kernel_rfl
    case hQ3_11 => exact fun _ _ _ h => h
    case hy3_11 => exact Or.inl ⟨by rfl, fun w hSw => by have q0 := cell_only l2 hSw n1; have q1 := cell_only l3 hSw n1; have q8 := cell_only l8 hSw n1; have r0 := cell_only t0 hSw nT; have r1 := cell_only t1 hSw nT; have r2 := cell_only t2 hSw nT; have r3 := cell_only t3 hSw nT; have s1 := cell_only p1 hSw n1; have s2 := cell_only p2 hSw n1; go_simp <;> (try with_reducible rfl)⟩
    simp only [Act.put, List.setIfInBounds_toArray, List.set_cons_zero, List.set_cons_succ]
    refine' wpAnyH_take (i := 4) ?hi4_11 ?hs4_11 ?hf4_11 ?hr4_11 ?hQ4_11 ?hy4_11 (by assumption) ?rest4_11
    case hi4_11 => simp only [List.getElem?_toArray, List.getElem?_cons_succ, List.getElem?_cons_zero] <;> rfl
    case hs4_11 => kernel_rfl
    case hf4_11 => kernel_rfl
    case hr4_11 => kernel_rfl
    case hQ4_11 => exact fun _ _ _ h => h
    case hy4_11 => exact Or.inl ⟨by rfl, fun w hSw => by have q0 := cell_only l2 hSw n1; have q1 := cell_only l3 hSw n1; have q8 := cell_only l8 hSw n1; have r0 := cell_only t0 hSw nT; have r1 := cell_only t1 hSw nT; have r2 := cell_only t2 hSw nT; have r3 := cell_only t3 hSw nT; have s1 := cell_only p1 hSw n1; have s2 := cell_only p2 hSw n1; go_simp <;> (try with_reducible rfl)⟩
    simp only [Act.put, List.setIfInBounds_toArray, List.set_cons_zero, List.set_cons_succ]
    refine' wpAnyH_take (i := 5) ?hi5_11 ?hs5_11 ?hf5_11 ?hr5_11 ?hQ5_11 ?hy5_11 (by assumption) ?rest5_11
    case hi5_11 => simp only [List.getElem?_toArray, List.getElem?_cons_succ, List.getElem?_cons_zero] <;> rfl
    case hs5_11 => kernel_rfl
    case hf5_11 => kernel_rfl
    case hr5_11 => kernel_rfl
    case hQ5_11 => exact fun _ _ _ h => h
    case hy5_11 => exact Or.inl ⟨by rfl, fun w hSw => by have q0 := cell_only l2 hSw n1; have q1 := cell_only l3 hSw n1; have q8 := cell_only l8 hSw n1; have r0 := cell_only t0 hSw nT; have r1 := cell_only t1 hSw nT; have r2 := cell_only t2 hSw nT; have r3 := cell_only t3 hSw nT; have s1 := cell_only p1 hSw n1; have s2 := cell_only p2 hSw n1; go_simp <;> (try with_reducible rfl)⟩
    simp only [Act.put, List.setIfInBounds_toArray, List.set_cons_zero, List.set_cons_succ]
    refine' wpAnyH_take (i := 6) ?hi6_11 ?hs6_11 ?hf6_11 ?hr6_11 ?hQ6_11 ?hy6_11 (by assumption) ?rest6_11
    case hi6_11 => simp only [List.getElem?_toArray, List.getElem?_cons_succ, List.getElem?_cons_zero] <;> rfl
    case hs6_11 => kernel_rfl
    case hf6_11 => kernel_rfl
    case hr6_11 => kernel_rfl
    case hQ6_11 => exact fun _ _ _ h => h
    case hy6_11 => exact Or.inl ⟨by rfl, fun w hSw => by have q0 := cell_only l2 hSw n1; have q1 := cell_only l3 hSw n1; have q8 := cell_only l8 hSw n1; have r0 := cell_only t0 hSw nT; have r1 := cell_only t1 hSw nT; have r2 := cell_only t2 hSw nT; have r3 := cell_only t3 hSw nT; have s1 := cell_only p1 hSw n1; have s2 := cell_only p2 hSw n1; go_simp <;> (try with_reducible rfl)⟩
    simp only [Act.put, List.setIfInBounds_toArray, List.set_cons_zero, List.set_cons_succ]
    refine' wpAnyH_take (i := 7) ?hi7_11 ?hs7_11 ?hf7_11 ?hr7_11 ?hQ7_11 ?hy7_11 (by assumption) ?rest7_11
    case hi7_11 => simp only [List.getElem?_toArray, List.getElem?_cons_succ, List.getElem?_cons_zero] <;> rfl
    case hs7_11 => kernel_rfl
    case hf7_11 => kernel_rfl
    case hr7_11 => kernel_rfl
    case hQ7_11 => exact fun _ _ _ h => h
    case hy7_11 => exact Or.inl ⟨by rfl, fun w hSw => by have q0 := cell_only l2 hSw n1; have q1 := cell_only l3 hSw n1; have q8 := cell_only l8 hSw n1; have r0 := cell_only t0 hSw nT; have r1 := cell_only t1 hSw nT; have r2 := cell_only t2 hSw nT; have r3 := cell_only t3 hSw nT; have s1 := cell_only p1 hSw n1; have s2 := cell_only p2 hSw n1; go_simp <;> (try with_reducible rfl)⟩
    simp only [Act.put, List.setIfInBounds_toArray, List.set_cons_zero, List.set_cons_succ]
    refine' wpAnyH_take (i := 8) ?hi8_11 ?hs8_11 ?hf8_11 ?hr8_11 ?hQ8_11 ?hy8_11 (by assumption) ?rest8_11
    case hi8_11 => simp only [List.getElem?_toArray, List.getElem?_cons_succ, List.getElem?_cons_zero] <;> rfl
    case hs8_11 => kernel_rfl
    case hf8_11 => kernel_rfl
    case hr8_11 => kernel_rfl
    case hQ8_11 => exact fun _ _ _ h => h
    case hy8_11 => exact Or.inl ⟨by rfl, fun w hSw => by have q0 := cell_only l2 hSw n1; have q1 := cell_only l3 hSw n1; have q8 := cell_only l8 hSw n1; have r0 := cell_only t0 hSw nT; have r1 := cell_only t1 hSw nT; have r2 := cell_only t2 hSw nT; have r3 := cell_only t3 hSw nT; have s1 := cell_only p1 hSw n1; have s2 := cell_only p2 hSw n1; go_simp <;> (try with_reducible rfl)⟩
    simp only [Act.put, List.setIfInBounds_toArray, List.set_cons_zero, List.set_cons_succ]
    refine' wpAnyH_take (i := 9) ?hi9_11 ?hs9_11 ?hf9_11 ?hr9_11 ?hQ9_11 ?hy9_11 (by assumption) ?rest9_11
    case hi9_11 => simp only [List.getElem?_toArray, List.getElem?_cons_succ, List.getElem?_cons_zero] <;> rfl
    case hs9_11 => kernel_rfl
    case hf9_11 => kernel_rfl
    case hr9_11 => kernel_rfl
    case hQ9_11 => exact fun _ _ _ h => h
    case hy9_11 => exact Or.inl ⟨by rfl, fun w hSw => by have q0 := cell_only l2 hSw n1; have q1 := cell_only l3 hSw n1; have q8 := cell_only l8 hSw n1; have r0 := cell_only t0 hSw nT; have r1 := cell_only t1 hSw nT; have r2 := cell_only t2 hSw nT; have r3 := cell_only t3 hSw nT; have s1 := cell_only p1 hSw n1; have s2 := cell_only p2 hSw n1; go_simp <;> (try with_reducible rfl)⟩
    simp only [Act.put, List.setIfInBounds_toArray, List.set_cons_zero, List.set_cons_succ]
    refine' wpAnyH_take (i := 10) ?hi10_11 ?hs10_11 ?hf10_11 ?hr10_11 ?hQ10_11 ?hy10_11 (by assumption) ?rest10_11
    case hi10_11 => simp only [List.getElem?_toArray, List.getElem?_cons_succ, List.getElem?_cons_zero] <;> rfl
    case hs10_11 => kernel_rfl
    case hf10_11 => kernel_rfl
    case hr10_11 => kernel_rfl
    case hQ10_11 => exact fun _ _ _ h => h
    case hy10_11 => exact Or.inl ⟨by rfl, fun w hSw => by have q0 := cell_only l2 hSw n1; have q1 := cell_only l3 hSw n1; have q8 := cell_only l8 hSw n1; have r0 := cell_only t0 hSw nT; have r1 := cell_only t1 hSw nT; have r2 := cell_only t2 hSw nT; have r3 := cell_only t3 hSw nT; have s1 := cell_only p1 hSw n1; have s2 := cell_only p2 hSw n1; go_simp <;> (try with_reducible rfl)⟩
    simp only [Act.put, List.setIfInBounds_toArray, List.set_cons_zero, List.set_cons_succ]
    refine' wpAnyH_take (i := 11) ?hi11_11 ?hs11_11 ?hf11_11 ?hr11_11 ?hQ11_11 ?hy11_11 (by assumption) ?rest11_11
    case hi11_11 => simp only [List.getElem?_toArray, List.getElem?_cons_succ, List.getElem?_cons_zero] <;> rfl
    case hs11_11 => kernel_rfl
    case hf11_11 => kernel_rfl
    case hr11_11 => kernel_rfl
    case hQ11_11 => exact fun _ _ _ h => h
    case hy11_11 => exact Or.inl ⟨by rfl, fun w hSw => by have q0 := cell_only l2 hSw n1; have q1 := cell_only l3 hSw n1; have q8 := cell_only l8 hSw n1; have r0 := cell_only t0 hSw nT; have r1 := cell_only t1 hSw nT; have r2 := cell_only t2 hSw nT; have r3 := cell_only t3 hSw nT; have s1 := cell_only p1 hSw n1; have s2 := cell_only p2 hSw n1; go_simp <;> (try with_reducible rfl)⟩
    simp only [Act.put, List.setIfInBounds_toArray, List.set_cons_zero, List.set_cons_succ]
    refine' wpAnyH_take (i := 12) ?hi12_11 ?hs12_11 ?hf12_11 ?hr12_11 ?hQ12_11 ?hy12_11 (by assumption) ?rest12_11
    case hi12_11 => simp only [List.getElem?_toArray, List.getElem?_cons_succ, List.getElem?_cons_zero] <;> rfl
    case hs12_11 => kernel_rfl
    case hf12_11 => kernel_rfl
    case hr12_11 => kernel_rfl
    case hQ12_11 => exact fun _ _ _ h => h
    case hy12_11 => exact Or.inl ⟨by rfl, fun w hSw => by have q0 := cell_only l2 hSw n1; have q1 := cell_only l3 hSw n1; have q8 := cell_only l8 hSw n1; have r0 := cell_only t0 hSw nT; have r1 := cell_only t1 hSw nT; have r2 := cell_only t2 hSw nT; have r3 := cell_only t3 hSw nT; have s1 := cell_only p1 hSw n1; have s2 := cell_only p2 hSw n1; go_simp <;> (try with_reducible rfl)⟩
    simp only [Act.put, List.setIfInBounds_toArray, List.set_cons_zero, List.set_cons_succ]
    refine' wpAnyH_take (i := 13) ?hi13_11 ?hs13_11 ?hf13_11 ?hr13_11 ?hQ13_11 ?hy13_11 (by assumption) ?rest13_11
    case hi13_11 => simp only [List.getElem?_toArray, List.getElem?_cons_succ, List.getElem?_cons_zero] <;> rfl
    case hs13_11 => kernel_rfl
    case hf13_11 => kernel_rfl
    case hr13_11 => kernel_rfl
    case hQ13_11 => exact fun _ _ _ h => h
    case hy13_11 => exact Or.inl ⟨by rfl, fun w hSw => by have q0 := cell_only l2 hSw n1; have q1 := cell_only l3 hSw n1; have q8 := cell_only l8 hSw n1; have r0 := cell_only t0 hSw nT; have r1 := cell_only t1 hSw nT; have r2 := cell_only t2 hSw nT; have r3 := cell_only t3 hSw nT; have s1 := cell_only p1 hSw n1; have s2 := cell_only p2 hSw n1; go_simp <;> (try with_reducible rfl)⟩
    simp only [Act.put, List.setIfInBounds_toArray, List.set_cons_zero, List.set_cons_succ]
    refine' wpAnyH_take (i := 14) ?hi14_11 ?hs14_11 ?hf14_11 ?hr14_11 ?hQ14_11 ?hy14_11 (by assumption) ?rest14_11
    case hi14_11 => simp only [List.getElem?_toArray, List.getElem?_cons_succ, List.getElem?_cons_zero] <;> rfl
    case hs14_11 => kernel_rfl
    case hf14_11 => kernel_rfl
    case hr14_11 => kernel_rfl
    case hQ14_11 => exact fun _ _ _ h => h
    case hy14_11 => exact Or.inl ⟨by rfl, fun w hSw => by have q0 := cell_only l2 hSw n1; have q1 := cell_only l3 hSw n1; have q8 := cell_only l8 hSw n1; have r0 := cell_only t0 hSw nT; have r1 := cell_only t1 hSw nT; have r2 := cell_only t2 hSw nT; have r3 := cell_only t3 hSw nT; have s1 := cell_only p1 hSw n1; have s2 := cell_only p2 hSw n1; go_simp <;> (try with_reducible rfl)⟩
    simp only [Act.put, List.setIfInBounds_toArray, List.set_cons_zero, List.set_cons_succ]
    refine' wpAnyH_take (i := 15) ?hi15_11 ?hs15_11 ?hf15_11 ?hr15_11 ?hQ15_11 ?hy15_11 (by assumption) ?rest15_11
    case hi15_11 => simp only [List.getElem?_toArray, List.getElem?_cons_succ, List.getElem?_cons_zero] <;> rfl
    case hs15_11 => kernel_rfl
    case hf15_11 => kernel_rfl
    case hr15_11 => kernel_rfl
    case hQ15_11 => exact fun _ _ _ h => h
    case hy15_11 => exact Or.inl ⟨by rfl, fun w hSw => by have q0 := cell_only l2 hSw n1; have q1 := cell_only l3 hSw n1; have q8 := cell_only l8 hSw n1; have r0 := cell_only t0 hSw nT; have r1 := cell_only t1 hSw nT; have r2 := cell_only t2 hSw nT; have r3 := cell_only t3 hSw nT; have s1 := cell_only p1 hSw n1; have s2 := cell_only p2 hSw n1; go_simp <;> (try with_reducible rfl)⟩
    simp only [Act.put, List.setIfInBounds_toArray, List.set_cons_zero, List.set_cons_succ]
    refine' wpAnyH_take (i := 16) ?hi16_11 ?hs16_11 ?hf16_11 ?hr16_11 ?hQ16_11 ?hy16_11 (by assumption) ?rest16_11
    case hi16_11 => simp only [List.getElem?_toArray, List.getElem?_cons_succ, List.getElem?_cons_zero] <;> rfl
    case hs16_11 => kernel_rfl
    case hf16_11 => kernel_rfl
    case hr16_11 => kernel_rfl
    case hQ16_11 => exact fun _ _ _ h => h
    case hy16_11 => exact Or.inl ⟨by rfl, fun w hSw => by have q0 := cell_only l2 hSw n1; have q1 := cell_only l3 hSw n1; have q8 := cell_only l8 hSw n1; have r0 := cell_only t0 hSw nT; have r1 := cell_only t1 hSw nT; have r2 := cell_only t2 hSw nT; have r3 := cell_only t3 hSw nT; have s1 := cell_only p1 hSw n1; have s2 := cell_only p2 hSw n1; go_simp <;> (try with_reducible rfl)⟩
    simp only [Act.put, List.setIfInBounds_toArray, List.set_cons_zero, List.set_cons_succ]
    refine' wpAnyH_take (i := 17) ?hi17_11 ?hs17_11 ?hf17_11 ?hr17_11 ?hQ17_11 ?hy17_11 (by assumption) ?rest17_11
    case hi17_11 => simp only [List.getElem?_toArray, List.getElem?_cons_succ, List.getElem?_cons_zero] <;> rfl
    case hs17_11 => kernel_rfl
    case hf17_11 => kernel_rfl
    case hr17_11 => kernel_rfl
    case hQ17_11 => exact fun _ _ _ h => h
    case hy17_11 => exact Or.inl ⟨by rfl, fun w hSw => by have q0 := cell_only l2 hSw n1; have q1 := cell_only l3 hSw n1; have q8 := cell_only l8 hSw n1; have r0 := cell_only t0 hSw nT; have r1 := cell_only t1 hSw nT; have r2 := cell_only t2 hSw nT; have r3 := cell_only t3 hSw nT; have s1 := cell_only p1 hSw n1; have s2 := cell_only p2 hSw n1; go_simp <;> (try with_reducible rfl)⟩
    simp only [Act.put, List.setIfInBounds_toArray, List.set_cons_zero, List.set_cons_succ]
    refine' wpAnyH_take (i := 18) ?hi18_11 ?hs18_11 ?hf18_11 ?hr18_11 ?hQ18_11 ?hy18_11 (by assumption) ?rest18_11
    case hi18_11 => simp only [List.getElem?_toArray, List.getElem?_cons_succ, List.getElem?_cons_zero] <;> rfl
    case hs18_11 => kernel_rfl
    case hf18_11 => kernel_rfl
    case hr18_11 => kernel_rfl
    case hQ18_11 => exact fun _ _ _ h => h
    case hy18_11 => exact Or.inl ⟨by rfl, fun w hSw => by have q0 := cell_only l2 hSw n1; have q1 := cell_only l3 hSw n1; have q8 := cell_only l8 hSw n1; have r0 := cell_only t0 hSw nT; have r1 := cell_only t1 hSw nT; have r2 := cell_only t2 hSw nT; have r3 := cell_only t3 hSw nT; have s1 := cell_only p1 hSw n1; have s2 := cell_only p2 hSw n1; go_simp <;> (try with_reducible rfl)⟩
    simp only [Act.put, List.setIfInBounds_toArray, List.set_cons_zero, List.set_cons_succ]
    refine' wpAnyH_take (i := 19) ?hi19_11 ?hs19_11 ?hf19_11 ?hr19_11 ?hQ19_11 ?hy19_11 (by assumption) ?rest19_11
    case hi19_11 => simp only [List.getElem?_toArray, List.getElem?_cons_succ, List.getElem?_cons_zero] <;> rfl
    case hs19_11 => kernel_rfl
    case hf19_11 => kernel_rfl
    case hr19_11 => kernel_rfl
    case hQ19_11 => exact fun _ _ _ h => h
    case hy19_11 => exact Or.inl ⟨by rfl, fun w hSw => by have q0 := cell_only l2 hSw n1; have q1 := cell_only l3 hSw n1; have q8 := cell_only l8 hSw n1; have r0 := cell_only t0 hSw nT; have r1 := cell_only t1 hSw nT; have r2 := cell_only t2 hSw nT; have r3 := cell_only t3 hSw nT; have s1 := cell_only p1 hSw n1; have s2 := cell_only p2 hSw n1; go_simp <;> (try with_reducible rfl)⟩
    simp only [Act.put, List.setIfInBounds_toArray, List.set_cons_zero, List.set_cons_succ]
    refine' wpAnyH_take (i := 20) ?hi20_11 ?hs20_11 ?hf20_11 ?hr20_11 ?hQ20_11 ?hy20_11 (by assumption) ?rest20_11
    case hi20_11 => simp only [List.getElem?_toArray, List.getElem?_cons_succ, List.getElem?_cons_zero] <;> rfl
    case hs20_11 => kernel_rfl
    case hf20_11 => kernel_rfl
    case hr20_11 => kernel_rfl
    case hQ20_11 => exact fun _ _ _ h => h
    case hy20_11 => exact Or.inl ⟨by rfl, fun w hSw => by have q0 := cell_only l2 hSw n1; have q1 := cell_only l3 hSw n1; have q8 := cell_only l8 hSw n1; have r0 := cell_only t0 hSw nT; have r1 := cell_only t1 hSw nT; have r2 := cell_only t2 hSw nT; have r3 := cell_only t3 hSw nT; have s1 := cell_only p1 hSw n1; have s2 := cell_only p2 hSw n1; go_simp <;> (try with_reducible rfl)⟩
    simp only [Act.put, List.setIfInBounds_toArray, List.set_cons_zero, List.set_cons_succ]
    refine' wpAnyH_take (i := 21) ?hi21_11 ?hs21_11 ?hf21_11 ?hr21_11 ?hQ21_11 ?hy21_11 (by assumption) ?rest21_11
    case hi21_11 => simp only [List.getElem?_toArray, List.getElem?_cons_succ, List.getElem?_cons_zero] <;> rfl
    case hs21_11 => kernel_rfl
    case hf21_11 => kernel_rfl
    case hr21_11 => kernel_rfl
    case hQ21_11 => exact fun _ _ _ h => h
    case hy21_11 => exact Or.inl ⟨by rfl, fun w hSw => by have q0 := cell_only l2 hSw n1; have q1 := cell_only l3 hSw n1; have q8 := cell_only l8 hSw n1; have r0 := cell_only t0 hSw nT; have r1 := cell_only t1 hSw nT; have r2 := cell_only t2 hSw nT; have r3 := cell_only t3 hSw nT; have s1 := cell_only p1 hSw n1; have s2 := cell_only p2 hSw n1; go_simp <;> (try with_reducible rfl)⟩
    simp only [Act.put, List.setIfInBounds_toArray, List.set_cons_zero, List.set_cons_succ]
    refine wpAnyH_ready (rs := [22]) (by kernel_rfl) (by simp) ?_
    refine AllReadyH.cons rfl (fun K hK => ?_) AllReadyH.nil
    go_simp
    with_reducible refine Calls.mono (HLy.out _ (Touch.drew K3) hTh) ?_
    rintro e w4 ⟨rfl, hS4, o4⟩
    go_wp2_with fail
    refine hK.out _ _ (hHeld.trans_ o4) (fun hHeld => ?_)
    clear hK K
    refine' wpAnyH_take (i := 23) ?hi23_11 ?hs23_11 ?hf23_11 ?hr23_11 ?hQ23_11 ?hy23_11 (by assumption) ?rest23_11
    case hi23_11 => simp only [List.getElem?_toArray, List.getElem?_cons_succ, List.getElem?_cons_zero] <;> rfl
    case hs23_11 => kernel_rfl
    case hf23_11 => kernel_rfl
    case hr23_11 => kernel_rfl
    case hQ23_11 => exact fun _ _ _ h => h
    case hy23_11 => exact Or.inl ⟨by rfl, fun w hSw => by go_simp <;> (try with_reducible rfl)⟩
    simp only [Act.put, List.setIfInBounds_toArray, List.set_cons_zero, List.set_cons_succ]
    refine' wpAnyH_take (i := 24) ?hi24_11 ?hs24_11 ?hf24_11 ?hr24_11 ?hQ24_11 ?hy24_11 (by assumption) ?rest24_11
    case hi24_11 => simp only [List.getElem?_toArray, List.getElem?_cons_succ, List.getElem?_cons_zero] <;> rfl
    case hs24_11 => kernel_rfl
    case hf24_11 => kernel_rfl
    case hr24_11 => kernel_rfl
    case hQ24_11 => exact fun _ _ _ h => h
    case hy24_11 => exact Or.inl ⟨by rfl, fun w hSw => by go_simp <;> (try with_reducible rfl)⟩
    simp only [Act.put, List.setIfInBounds_toArray, List.set_cons_zero, List.set_cons_succ]
    refine wpAnyH_done (by kernel_rfl) ?_ _
    refine NoPanic.normal ?_
    have OT : Only bw w w4 := Touch.trans (Touch.only K3) hHeld (fun x hx _ => hx)
    have hO4 : Only bw w3 w4 := hHeld
    have z34 := hO4.size
    have z4 := OT.size
    have l2 := cell_only l2 hO4 n1
    have l3 := cell_only l3 hO4 n1
    have l8 := cell_only l8 hO4 n1
    have t0 := cell_only t0 hO4 nT
    have t1 := cell_only t1 hO4 nT
    have t2 := cell_only t2 hO4 nT
    have t3 := cell_only t3 hO4 nT
    have p1 := cell_only p1 hO4 n1
    have p2 := cell_only p2 hO4 n1
    have BT4 := BT3.touch hO4 nT
    have HA4 := Lib.hid (HLd.out hTh)
    clear HLy HLd BT3 hHeld o4
    have hag8 : 0 ≤ ag % 8 ∧ ag % 8 < 8 := by omega
    have hat2 := HLa.out hTh hag8
    have hat1 := HA4.out
    obtain ⟨fin, hfin⟩ : ∃ fin : Bool, fin = (C ((c : Int) - 1).toNat).fin := ⟨_, rfl⟩
    rw [← hfin] at hat1 hat2 HOk hS4
    obtain ⟨fl, hfl⟩ : ∃ fl : Nat → Int, fl = layF s.f tt wd (layW c fin) len := ⟨_, rfl⟩
    rw [← hfl] at hS4 hat1
    have hobj : objP (atT n fl m C tt) = (⟨⟨c, 0, 0, false, fin, false⟩, r, d, wd⟩, 0) := by
      rw [objP_same (by rw [hat1]; exact fun q => absurd q.2 (by show ¬ ((c : Int) = 0); omega))]
      exact hat1
    have HHd := Lib.hid (show ∀ w', Keeps w4 w' → Calls Try.prog 41 #[.agg #[.pointer (some ⟨ba, 0, none⟩), .pointer (some ⟨bt, 0, none⟩)], .int .i64 tt] w' fun e w2 => e = .returned (.tuple #[.agg #[.int .i64 c, .int .i64 0, .int .i64 0, .bool false, .bool fin, .bool false], .int .i64 0]) ∧ Keeps w' w2 from fun w' kk => by
      have hh := ohead_any ba bw n fl bt A m cap C w' (hS4.keep kk) tt
      rw [hobj] at hh
      exact hh)
    have HFl := Lib.hid hfl
    have HFin := Lib.hid hfin
    have HS4 := Lib.hid hS4
    have HObj := Lib.hid hobj
    have HA2 := Lib.hid hat2
    clear hfl hS4 hobj hfin hat1 hat2 HA4 HLa
    have hzh := zero_hd
    go_wp2_with fail
    go_cut [11, 12] from 98 to 110 (fun v _ wx => ∃ hb, v = .pointer (some ⟨hb, 0, none⟩) ∧ BL wx hb 96 [.int .i64 c, .int .i64 0, .int .i64 0, .bool false, .bool fin, .bool false] ∧ w4.heap.size ≤ hb ∧ Keeps w4 wx)
    case first =>
      clear HS4 HAt HBh HI HSt HA2
      refine wp_region_noPanic ?_
      refine wp_region_held_drew (S := (fun w' => Keeps w4 w')) (by kernel_rfl) (Touch.refl _ w4).drew (fun hHeld => ?_)
      refine' wpAnyH_take (i := 0) ?hi0_6 ?hs0_6 ?hf0_6 ?hr0_6 ?hQ0_6 ?hy0_6 (by assumption) ?rest0_6
      case hi0_6 => simp only [List.getElem?_toArray, List.getElem?_cons_zero] <;> rfl
      case hs0_6 => kernel_rfl
      case hf0_6 => kernel_rfl
      case hr0_6 => kernel_rfl
      case hQ0_6 => exact fun _ _ _ h => h
      case hy0_6 => exact Or.inl ⟨by rfl, fun w hSw => by have q0 := cell_keep l2 hSw; have q1 := cell_keep l3 hSw; have q8 := cell_keep l8 hSw; have r0 := cell_keep t0 hSw; have r1 := cell_keep t1 hSw; have r2 := cell_keep t2 hSw; have r3 := cell_keep t3 hSw; have s1 := cell_keep p1 hSw; have s2 := cell_keep p2 hSw; go_simp <;> (try with_reducible rfl)⟩
      simp only [Act.put, List.setIfInBounds_toArray, List.set_cons_zero, List.set_cons_succ]
      refine' wpAnyH_take (i := 1) ?hi1_6 ?hs1_6 ?hf1_6 ?hr1_6 ?hQ1_6 ?hy1_6 (by assumption) ?rest1_6
      case hi1_6 => simp only [List.getElem?_toArray, List.getElem?_cons_succ, List.getElem?_cons_zero] <;> rfl
      case hs1_6 => kernel_rfl
      case hf1_6 => kernel_rfl
      case hr1_6 => kernel_rfl
      case hQ1_6 => exact fun _ _ _ h => h
      case hy1_6 => exact Or.inl ⟨by rfl, fun w hSw => by have q0 := cell_keep l2 hSw; have q1 := cell_keep l3 hSw; have q8 := cell_keep l8 hSw; have r0 := cell_keep t0 hSw; have r1 := cell_keep t1 hSw; have r2 := cell_keep t2 hSw; have r3 := cell_keep t3 hSw; have s1 := cell_keep p1 hSw; have s2 := cell_keep p2 hSw; go_simp <;> (try with_reducible rfl)⟩
      simp only [Act.put, List.setIfInBounds_toArray, List.set_cons_zero, List.set_cons_succ]
      refine' wpAnyH_take (i := 2) ?hi2_6 ?hs2_6 ?hf2_6 ?hr2_6 ?hQ2_6 ?hy2_6 (by assumption) ?rest2_6
      case hi2_6 => simp only [List.getElem?_toArray, List.getElem?_cons_succ, List.getElem?_cons_zero] <;> rfl
      case hs2_6 => kernel_rfl
      case hf2_6 => kernel_rfl
      case hr2_6 => kernel_rfl
      case hQ2_6 => exact fun _ _ _ h => h
      case hy2_6 => exact Or.inl ⟨by rfl, fun w hSw => by have q0 := cell_keep l2 hSw; have q1 := cell_keep l3 hSw; have q8 := cell_keep l8 hSw; have r0 := cell_keep t0 hSw; have r1 := cell_keep t1 hSw; have r2 := cell_keep t2 hSw; have r3 := cell_keep t3 hSw; have s1 := cell_keep p1 hSw; have s2 := cell_keep p2 hSw; go_simp <;> (try with_reducible rfl)⟩
      simp only [Act.put, List.setIfInBounds_toArray, List.set_cons_zero, List.set_cons_succ]
      refine' wpAnyH_take (i := 3) ?hi3_6 ?hs3_6 ?hf3_6 ?hr3_6 ?hQ3_6 ?hy3_6 (by assumption) ?rest3_6
      case hi3_6 => simp only [List.getElem?_toArray, List.getElem?_cons_succ, List.getElem?_cons_zero] <;> rfl
      case hs3_6 => kernel_rfl
      case hf3_6 => kernel_rfl
      case hr3_6 => kernel_rfl
      case hQ3_6 => exact fun _ _ _ h => h
      case hy3_6 => exact Or.inl ⟨by rfl, fun w hSw => by have q0 := cell_keep l2 hSw; have q1 := cell_keep l3 hSw; have q8 := cell_keep l8 hSw; have r0 := cell_keep t0 hSw; have r1 := cell_keep t1 hSw; have r2 := cell_keep t2 hSw; have r3 := cell_keep t3 hSw; have s1 := cell_keep p1 hSw; have s2 := cell_keep p2 hSw; go_simp <;> (try with_reducible rfl)⟩
      simp only [Act.put, List.setIfInBounds_toArray, List.set_cons_zero, List.set_cons_succ]
      refine' wpAnyH_take (i := 4) ?hi4_6 ?hs4_6 ?hf4_6 ?hr4_6 ?hQ4_6 ?hy4_6 (by assumption) ?rest4_6
      case hi4_6 => simp only [List.getElem?_toArray, List.getElem?_cons_succ, List.getElem?_cons_zero] <;> rfl
      case hs4_6 => kernel_rfl
      case hf4_6 => kernel_rfl
      case hr4_6 => kernel_rfl
      case hQ4_6 => exact fun _ _ _ h => h
      case hy4_6 => exact Or.inl ⟨by rfl, fun w hSw => by have q0 := cell_keep l2 hSw; have q1 := cell_keep l3 hSw; have q8 := cell_keep l8 hSw; have r0 := cell_keep t0 hSw; have r1 := cell_keep t1 hSw; have r2 := cell_keep t2 hSw; have r3 := cell_keep t3 hSw; have s1 := cell_keep p1 hSw; have s2 := cell_keep p2 hSw; go_simp <;> (try with_reducible rfl)⟩
      simp only [Act.put, List.setIfInBounds_toArray, List.set_cons_zero, List.set_cons_succ]
      refine' wpAnyH_take (i := 5) ?hi5_6 ?hs5_6 ?hf5_6 ?hr5_6 ?hQ5_6 ?hy5_6 (by assumption) ?rest5_6
      case hi5_6 => simp only [List.getElem?_toArray, List.getElem?_cons_succ, List.getElem?_cons_zero] <;> rfl
      case hs5_6 => kernel_rfl
      case hf5_6 => kernel_rfl
      case hr5_6 => kernel_rfl
      case hQ5_6 => exact fun _ _ _ h => h
      case hy5_6 => exact Or.inl ⟨by rfl, fun w hSw => by have q0 := cell_keep l2 hSw; have q1 := cell_keep l3 hSw; have q8 := cell_keep l8 hSw; have r0 := cell_keep t0 hSw; have r1 := cell_keep t1 hSw; have r2 := cell_keep t2 hSw; have r3 := cell_keep t3 hSw; have s1 := cell_keep p1 hSw; have s2 := cell_keep p2 hSw; go_simp <;> (try with_reducible rfl)⟩
      simp only [Act.put, List.setIfInBounds_toArray, List.set_cons_zero, List.set_cons_succ]
      refine' wpAnyH_take (i := 6) ?hi6_6 ?hs6_6 ?hf6_6 ?hr6_6 ?hQ6_6 ?hy6_6 (by assumption) ?rest6_6
      case hi6_6 => simp only [List.getElem?_toArray, List.getElem?_cons_succ, List.getElem?_cons_zero] <;> rfl
      case hs6_6 => kernel_rfl
      case hf6_6 => kernel_rfl
      case hr6_6 => kernel_rfl
      case hQ6_6 => exact fun _ _ _ h => h
      case hy6_6 => exact Or.inl ⟨by rfl, fun w hSw => by have q0 := cell_keep l2 hSw; have q1 := cell_keep l3 hSw; have q8 := cell_keep l8 hSw; have r0 := cell_keep t0 hSw; have r1 := cell_keep t1 hSw; have r2 := cell_keep t2 hSw; have r3 := cell_keep t3 hSw; have s1 := cell_keep p1 hSw; have s2 := cell_keep p2 hSw; go_simp <;> (try with_reducible rfl)⟩
      simp only [Act.put, List.setIfInBounds_toArray, List.set_cons_zero, List.set_cons_succ]
      refine' wpAnyH_take (i := 7) ?hi7_6 ?hs7_6 ?hf7_6 ?hr7_6 ?hQ7_6 ?hy7_6 (by assumption) ?rest7_6
      case hi7_6 => simp only [List.getElem?_toArray, List.getElem?_cons_succ, List.getElem?_cons_zero] <;> rfl
      case hs7_6 => kernel_rfl
      case hf7_6 => kernel_rfl
      case hr7_6 => kernel_rfl
      case hQ7_6 => exact fun _ _ _ h => h
      case hy7_6 => exact Or.inl ⟨by rfl, fun w hSw => by have q0 := cell_keep l2 hSw; have q1 := cell_keep l3 hSw; have q8 := cell_keep l8 hSw; have r0 := cell_keep t0 hSw; have r1 := cell_keep t1 hSw; have r2 := cell_keep t2 hSw; have r3 := cell_keep t3 hSw; have s1 := cell_keep p1 hSw; have s2 := cell_keep p2 hSw; go_simp <;> (try with_reducible rfl)⟩
      simp only [Act.put, List.setIfInBounds_toArray, List.set_cons_zero, List.set_cons_succ]
      refine wpAnyH_ready (rs := [8, 12]) (by kernel_rfl) (by simp) ?_
      refine (AllReadyH.cons rfl (fun K hK => ?_) (AllReadyH.cons rfl (fun K hK => ?_) AllReadyH.nil))
      · go_simp
        with_reducible refine Calls.mono (HHd.out _ hHeld) ?_
        rintro e w5 ⟨rfl, k5⟩
        go_wp2_with fail
        have hHeld5 := Keeps.trans hHeld k5
        refine hK.out _ _ hHeld5 (fun hHeld => ?_)
        clear hK K
        refine' wpAnyH_take (i := 9) ?hi9_7 ?hs9_7 ?hf9_7 ?hr9_7 ?hQ9_7 ?hy9_7 (by assumption) ?rest9_7
        case hi9_7 => simp only [List.getElem?_toArray, List.getElem?_cons_succ, List.getElem?_cons_zero] <;> rfl
        case hs9_7 => kernel_rfl
        case hf9_7 => kernel_rfl
        case hr9_7 => kernel_rfl
        case hQ9_7 => exact fun _ _ _ h => h
        case hy9_7 => exact Or.inl ⟨by rfl, fun w hSw => by go_simp <;> (try with_reducible rfl)⟩
        simp only [Act.put, List.setIfInBounds_toArray, List.set_cons_zero, List.set_cons_succ]
        refine' wpAnyH_take (i := 10) ?hi10_7 ?hs10_7 ?hf10_7 ?hr10_7 ?hQ10_7 ?hy10_7 (by assumption) ?rest10_7
        case hi10_7 => simp only [List.getElem?_toArray, List.getElem?_cons_succ, List.getElem?_cons_zero] <;> rfl
        case hs10_7 => kernel_rfl
        case hf10_7 => kernel_rfl
        case hr10_7 => kernel_rfl
        case hQ10_7 => exact fun _ _ _ h => h
        case hy10_7 => exact Or.inl ⟨by rfl, fun w hSw => by go_simp <;> (try with_reducible rfl)⟩
        simp only [Act.put, List.setIfInBounds_toArray, List.set_cons_zero, List.set_cons_succ]
        refine' wpAnyH_take (i := 11) ?hi11_7 ?hs11_7 ?hf11_7 ?hr11_7 ?hQ11_7 ?hy11_7 (by assumption) ?rest11_7
        case hi11_7 => simp only [List.getElem?_toArray, List.getElem?_cons_succ, List.getElem?_cons_zero] <;> rfl
        case hs11_7 => kernel_rfl
        case hf11_7 => kernel_rfl
        case hr11_7 => kernel_rfl
        case hQ11_7 => exact fun _ _ _ h => h
        case hy11_7 => exact Or.inl ⟨by rfl, fun w hSw => by go_simp <;> (try with_reducible rfl)⟩
        simp only [Act.put, List.setIfInBounds_toArray, List.set_cons_zero, List.set_cons_succ]
        refine wpAnyH_ready (rs := [12]) (by kernel_rfl) (by simp) ?_
        refine (AllReadyH.cons rfl (fun K hK => ?_) AllReadyH.nil)
        go_simp
        refine hK.out _ _ (Touch.alloc hHeld5 _) (fun hHeld => ?_)
        clear hK K
        refine wpAnyH_ready (rs := [13]) (by kernel_rfl) (by simp) ?_
        refine (AllReadyH.cons rfl (fun K hK => ?_) AllReadyH.nil)
        go_simp
        refine hK.out _ _ (Touch.alloc hHeld5 _) (fun hHeld => ?_)
        clear hK K
        refine' wpAnyH_take (i := 14) ?hi14_8 ?hs14_8 ?hf14_8 ?hr14_8 ?hQ14_8 ?hy14_8 (by assumption) ?rest14_8
        case hi14_8 => simp only [List.getElem?_toArray, List.getElem?_cons_succ, List.getElem?_cons_zero] <;> rfl
        case hs14_8 => kernel_rfl
        case hf14_8 => kernel_rfl
        case hr14_8 => kernel_rfl
        case hQ14_8 => exact fun _ _ _ h => h
        case hy14_8 => exact Or.inl ⟨by rfl, fun w hSw => by go_simp <;> (try with_reducible rfl)⟩
        simp only [Act.put, List.setIfInBounds_toArray, List.set_cons_zero, List.set_cons_succ]
        refine wpAnyH_done (by kernel_rfl) ?_ _
        refine NoPanic.normal ?_
        go_wp2_with fail
        go_meet
        exact ⟨w5.heap.size, rfl, BL.new1 w5 96 _ [.int .i64 c, .int .i64 0, .int .i64 0, .bool false, .bool fin, .bool false] _ rfl rfl, hHeld5.size, hHeld⟩
      · go_simp
        have ka : Keeps w4 ((w4.drew).alloc (.cells (#[.int .i64 0, .int .i64 0, .int .i64 0, .bool false, .bool false, .bool false]) 96)) := Touch.alloc hHeld _
        have B0 : BL ((w4.drew).alloc (.cells (#[.int .i64 0, .int .i64 0, .int .i64 0, .bool false, .bool false, .bool false]) 96)) w4.heap.size 96 [.int .i64 0, .int .i64 0, .int .i64 0, .bool false, .bool false, .bool false] := BL.new1 _ _ _ [.int .i64 0, .int .i64 0, .int .i64 0, .bool false, .bool false, .bool false] _ rfl rfl
        refine hK.out _ _ ka (fun hHeld => ?_)
        clear hK K
        refine wpAnyH_ready (rs := [8]) (by kernel_rfl) (by simp) ?_
        refine (AllReadyH.cons rfl (fun K hK => ?_) AllReadyH.nil)
        go_simp
        with_reducible refine Calls.mono (HHd.out _ hHeld) ?_
        rintro e w5 ⟨rfl, k5⟩
        go_wp2_with fail
        have hHeld5 := Keeps.trans hHeld k5
        refine hK.out _ _ hHeld5 (fun hHeld => ?_)
        clear hK K
        refine' wpAnyH_take (i := 9) ?hi9_9 ?hs9_9 ?hf9_9 ?hr9_9 ?hQ9_9 ?hy9_9 (by assumption) ?rest9_9
        case hi9_9 => simp only [List.getElem?_toArray, List.getElem?_cons_succ, List.getElem?_cons_zero] <;> rfl
        case hs9_9 => kernel_rfl
        case hf9_9 => kernel_rfl
        case hr9_9 => kernel_rfl
        case hQ9_9 => exact fun _ _ _ h => h
        case hy9_9 => exact Or.inl ⟨by rfl, fun w hSw => by go_simp <;> (try with_reducible rfl)⟩
        simp only [Act.put, List.setIfInBounds_toArray, List.set_cons_zero, List.set_cons_succ]
        refine' wpAnyH_take (i := 10) ?hi10_9 ?hs10_9 ?hf10_9 ?hr10_9 ?hQ10_9 ?hy10_9 (by assumption) ?rest10_9
        case hi10_9 => simp only [List.getElem?_toArray, List.getElem?_cons_succ, List.getElem?_cons_zero] <;> rfl
        case hs10_9 => kernel_rfl
        case hf10_9 => kernel_rfl
        case hr10_9 => kernel_rfl
        case hQ10_9 => exact fun _ _ _ h => h
        case hy10_9 => exact Or.inl ⟨by rfl, fun w hSw => by go_simp <;> (try with_reducible rfl)⟩
        simp only [Act.put, List.setIfInBounds_toArray, List.set_cons_zero, List.set_cons_succ]
        refine' wpAnyH_take (i := 11) ?hi11_9 ?hs11_9 ?hf11_9 ?hr11_9 ?hQ11_9 ?hy11_9 (by assumption) ?rest11_9
        case hi11_9 => simp only [List.getElem?_toArray, List.getElem?_cons_succ, List.getElem?_cons_zero] <;> rfl
        case hs11_9 => kernel_rfl
        case hf11_9 => kernel_rfl
        case hr11_9 => kernel_rfl
        case hQ11_9 => exact fun _ _ _ h => h
        case hy11_9 => exact Or.inl ⟨by rfl, fun w hSw => by go_simp <;> (try with_reducible rfl)⟩
        simp only [Act.put, List.setIfInBounds_toArray, List.set_cons_zero, List.set_cons_succ]
        refine wpAnyH_ready (rs := [13]) (by kernel_rfl) (by simp) ?_
        refine (AllReadyH.cons rfl (fun K hK => ?_) AllReadyH.nil)
        rw [if_pos (show Region.wanted _ _ = true from rfl)]
        refine A5.wp_store_bl 96 (.tmp 11) (.tmp 108) rfl (BL.keep B0 k5) rfl [.int .i64 c, .int .i64 0, .int .i64 0, .bool false, .bool fin, .bool false] rfl sz_hd rfl rfl ?_
        intro X BX kX
        refine hK.out _ _ (Touch.new hHeld5 kX (Nat.le_refl _)) (fun hHeld => ?_)
        clear hK K
        simp only [Act.put, List.setIfInBounds_toArray, List.set_cons_zero, List.set_cons_succ]
        refine' wpAnyH_take (i := 14) ?hi14_10 ?hs14_10 ?hf14_10 ?hr14_10 ?hQ14_10 ?hy14_10 (by assumption) ?rest14_10
        case hi14_10 => simp only [List.getElem?_toArray, List.getElem?_cons_succ, List.getElem?_cons_zero] <;> rfl
        case hs14_10 => kernel_rfl
        case hf14_10 => kernel_rfl
        case hr14_10 => kernel_rfl
        case hQ14_10 => exact fun _ _ _ h => h
        case hy14_10 => exact Or.inl ⟨by rfl, fun w hSw => by go_simp <;> (try with_reducible rfl)⟩
        simp only [Act.put, List.setIfInBounds_toArray, List.set_cons_zero, List.set_cons_succ]
        refine wpAnyH_done (by kernel_rfl) ?_ _
        refine NoPanic.normal ?_
        go_wp2_with fail
        go_meet
        exact ⟨w4.heap.size, rfl, BX, Nat.le_refl _, hHeld⟩
    case rest =>
    obtain ⟨w5, rfl⟩ : ∃ w5 : World, w5 = wc := ⟨_, rfl⟩
    obtain ⟨hb, rfl, B5, hhb, k5⟩ := hcut
    clear HHd
    have l2 := cell_keep l2 k5
    have l3 := cell_keep l3 k5
    have l8 := cell_keep l8 k5
    have t0 := cell_keep t0 k5
    have t1 := cell_keep t1 k5
    have t2 := cell_keep t2 k5
    have t3 := cell_keep t3 k5
    have p1 := cell_keep p1 k5
    have p2 := cell_keep p2 k5
    have OT5 : Only bw w w5 := Touch.keep OT k5
    have z5 := OT5.size
    have HS5 := Lib.hid (HS4.out.keep k5)
    have nTh : w.heap.size ≠ hb := by omega
    have nXh : xb ≠ hb := by omega
    have hhl := B5.lt
    have d8 : ag.tmod 8 = ag % 8 := Int.tmod_eq_emod_of_nonneg hag.1
    obtain ⟨a8, ha8⟩ : ∃ a8 : Int, ag % 8 = a8 := ⟨_, rfl⟩
    rw [ha8] at d8 hag8 HA2
    have HA8 := Lib.hid ha8
    clear HS4 ha8
    have h1 := B5.c 1 _ rfl
    have fz1 := B5.fz 1
    go_wp2_with fail
    refine named_code (fun w6 hW6 => ?_)
    have B6 : BL w6 hb 96 [.int .i64 c, .int .i64 a8, .int .i64 0, .bool false, .bool fin, .bool false] := by rw [hW6]; exact BL.set B5 1 (.int .i64 a8)
    have o6 : Only hb w5 w6 := by rw [hW6]; exact Touch.set (Only.refl hb w5) 1 _
    clear hW6 h1 fz1
    have l2 := cell_only l2 o6 nXh
    have l3 := cell_only l3 o6 nXh
    have l8 := cell_only l8 o6 nXh
    have t0 := cell_only t0 o6 nTh
    have t1 := cell_only t1 o6 nTh
    have t2 := cell_only t2 o6 nTh
    have t3 := cell_only t3 o6 nTh
    have p1 := cell_only p1 o6 nXh
    have p2 := cell_only p2 o6 nXh
    have h0 := B6.c 0 _ rfl
    have h1 := B6.c 1 _ rfl
    have h2 := B6.c 2 _ rfl
    have h3 := B6.c 3 _ rfl
    have h4 := B6.c 4 _ rfl
    have h5 := B6.c 5 _ rfl
    have OT6 : Only bw w w6 := Touch.trans OT5 o6 (fun x hx hlt => by have : x = hb := hx; omega)
    have z6 := OT6.size
    have HS6 := Lib.hid (HS5.out.touch o6 (show ¬ ba = hb by omega) (show ¬ bw = hb by omega) (show ¬ bt = hb by omega) (fun b off e h => by have := (n8 b off e).2; have : b = hb := h; omega))
    obtain ⟨h', hh'⟩ : ∃ h' : Hd, h' = ⟨c, a8, 0, false, fin, false⟩ := ⟨_, rfl⟩
    have hok' := HA2.out.1
    rw [← hh'] at hok'
    obtain ⟨f2, hf2⟩ : ∃ f2, f2 = putF fl tt.toNat (hdW h') := ⟨_, rfl⟩
    have HH2 := Lib.hid (show headF s.f C m tt c len a8 = f2 from by
      unfold headF
      rw [hf2, HFl.out, hh', HW2.out, ← HFin.out])
    have HSH := Lib.hid (show ∀ w', St w' ba bw n fl bt A m cap C → Calls Try.prog 42 #[.agg #[.pointer (some ⟨ba, 0, none⟩), .pointer (some ⟨bt, 0, none⟩)], .int .i64 tt, .agg #[.int .i64 c, .int .i64 a8, .int .i64 0, .bool false, .bool fin, .bool false]] w' fun e w2 => e = .returned (.int .i64 0) ∧ St w2 ba bw n f2 bt A m cap C ∧ Only bw w' w2 from fun w' hs => by
      have hh := sethead_yes ba bw n fl bt A m cap C w' hs tt h' (by rw [HObj.out]) hok' (by rw [HObj.out, hh'])
      rw [← hf2, hh'] at hh
      exact hh)
    have nBh : hb ≠ bw := by omega
    have HA6 := Lib.hid (show atT n f2 m C tt = (⟨h', r, d, wd⟩, 0) from by rw [← HH2.out, hh']; exact HA2.out.2)
    have HHH := Lib.hid (show h'.cls = c from by rw [hh'])
    clear hf2 hh' hok' HObj HS5 o6 HFl
    go_wp2_with fail
    refine wp_region_noPanic ?_
    refine wp_region_held_drew (S := (fun w' => Only bw w6 w')) (by kernel_rfl) (Only.refl _ w6).drew (fun hHeld => ?_)
    refine' wpAnyH_take (i := 0) ?hi0_4 ?hs0_4 ?hf0_4 ?hr0_4 ?hQ0_4 ?hy0_4 (by assumption) ?rest0_4
    case hi0_4 => simp only [List.getElem?_toArray, List.getElem?_cons_zero] <;> rfl
    case hs0_4 => kernel_rfl
    case hf0_4 => kernel_rfl
    case hr0_4 => kernel_rfl
    case hQ0_4 => exact fun _ _ _ h => h
    case hy0_4 => exact Or.inl ⟨by rfl, fun w hSw => by have q0 := cell_only l2 hSw n1; have q1 := cell_only l3 hSw n1; have q8 := cell_only l8 hSw n1; have r0 := cell_only t0 hSw nT; have r1 := cell_only t1 hSw nT; have r2 := cell_only t2 hSw nT; have r3 := cell_only t3 hSw nT; have s1 := cell_only p1 hSw n1; have s2 := cell_only p2 hSw n1; have x0 := cell_only h0 hSw nBh; have x1 := cell_only h1 hSw nBh; have x2 := cell_only h2 hSw nBh; have x3 := cell_only h3 hSw nBh; have x4 := cell_only h4 hSw nBh; have x5 := cell_only h5 hSw nBh; go_simp <;> (try with_reducible rfl)⟩
    simp only [Act.put, List.setIfInBounds_toArray, List.set_cons_zero, List.set_cons_succ]
    refine' wpAnyH_take (i := 1) ?hi1_4 ?hs1_4 ?hf1_4 ?hr1_4 ?hQ1_4 ?hy1_4 (by assumption) ?rest1_4
    case hi1_4 => simp only [List.getElem?_toArray, List.getElem?_cons_succ, List.getElem?_cons_zero] <;> rfl
    case hs1_4 => kernel_rfl
    case hf1_4 => kernel_rfl
    case hr1_4 => kernel_rfl
    case hQ1_4 => exact fun _ _ _ h => h
    case hy1_4 => exact Or.inl ⟨by rfl, fun w hSw => by have q0 := cell_only l2 hSw n1; have q1 := cell_only l3 hSw n1; have q8 := cell_only l8 hSw n1; have r0 := cell_only t0 hSw nT; have r1 := cell_only t1 hSw nT; have r2 := cell_only t2 hSw nT; have r3 := cell_only t3 hSw nT; have s1 := cell_only p1 hSw n1; have s2 := cell_only p2 hSw n1; have x0 := cell_only h0 hSw nBh; have x1 := cell_only h1 hSw nBh; have x2 := cell_only h2 hSw nBh; have x3 := cell_only h3 hSw nBh; have x4 := cell_only h4 hSw nBh; have x5 := cell_only h5 hSw nBh; go_simp <;> (try with_reducible rfl)⟩
    simp only [Act.put, List.setIfInBounds_toArray, List.set_cons_zero, List.set_cons_succ]
    refine' wpAnyH_take (i := 2) ?hi2_4 ?hs2_4 ?hf2_4 ?hr2_4 ?hQ2_4 ?hy2_4 (by assumption) ?rest2_4
    case hi2_4 => simp only [List.getElem?_toArray, List.getElem?_cons_succ, List.getElem?_cons_zero] <;> rfl
    case hs2_4 => kernel_rfl
    case hf2_4 => kernel_rfl
    case hr2_4 => kernel_rfl
    case hQ2_4 => exact fun _ _ _ h => h
    case hy2_4 => exact Or.inl ⟨by rfl, fun w hSw => by have q0 := cell_only l2 hSw n1; have q1 := cell_only l3 hSw n1; have q8 := cell_only l8 hSw n1; have r0 := cell_only t0 hSw nT; have r1 := cell_only t1 hSw nT; have r2 := cell_only t2 hSw nT; have r3 := cell_only t3 hSw nT; have s1 := cell_only p1 hSw n1; have s2 := cell_only p2 hSw n1; have x0 := cell_only h0 hSw nBh; have x1 := cell_only h1 hSw nBh; have x2 := cell_only h2 hSw nBh; have x3 := cell_only h3 hSw nBh; have x4 := cell_only h4 hSw nBh; have x5 := cell_only h5 hSw nBh; go_simp <;> (try with_reducible rfl)⟩
    simp only [Act.put, List.setIfInBounds_toArray, List.set_cons_zero, List.set_cons_succ]
    refine' wpAnyH_take (i := 3) ?hi3_4 ?hs3_4 ?hf3_4 ?hr3_4 ?hQ3_4 ?hy3_4 (by assumption) ?rest3_4
    case hi3_4 => simp only [List.getElem?_toArray, List.getElem?_cons_succ, List.getElem?_cons_zero] <;> rfl
    case hs3_4 => kernel_rfl
    case hf3_4 => kernel_rfl
    case hr3_4 => kernel_rfl
    case hQ3_4 => exact fun _ _ _ h => h
    case hy3_4 => exact Or.inl ⟨by rfl, fun w hSw => by have q0 := cell_only l2 hSw n1; have q1 := cell_only l3 hSw n1; have q8 := cell_only l8 hSw n1; have r0 := cell_only t0 hSw nT; have r1 := cell_only t1 hSw nT; have r2 := cell_only t2 hSw nT; have r3 := cell_only t3 hSw nT; have s1 := cell_only p1 hSw n1; have s2 := cell_only p2 hSw n1; have x0 := cell_only h0 hSw nBh; have x1 := cell_only h1 hSw nBh; have x2 := cell_only h2 hSw nBh; have x3 := cell_only h3 hSw nBh; have x4 := cell_only h4 hSw nBh; have x5 := cell_only h5 hSw nBh; go_simp <;> (try with_reducible rfl)⟩
    simp only [Act.put, List.setIfInBounds_toArray, List.set_cons_zero, List.set_cons_succ]
    refine' wpAnyH_take (i := 4) ?hi4_4 ?hs4_4 ?hf4_4 ?hr4_4 ?hQ4_4 ?hy4_4 (by assumption) ?rest4_4
    case hi4_4 => simp only [List.getElem?_toArray, List.getElem?_cons_succ, List.getElem?_cons_zero] <;> rfl
    case hs4_4 => kernel_rfl
    case hf4_4 => kernel_rfl
    case hr4_4 => kernel_rfl
    case hQ4_4 => exact fun _ _ _ h => h
    case hy4_4 => exact Or.inl ⟨by rfl, fun w hSw => by have q0 := cell_only l2 hSw n1; have q1 := cell_only l3 hSw n1; have q8 := cell_only l8 hSw n1; have r0 := cell_only t0 hSw nT; have r1 := cell_only t1 hSw nT; have r2 := cell_only t2 hSw nT; have r3 := cell_only t3 hSw nT; have s1 := cell_only p1 hSw n1; have s2 := cell_only p2 hSw n1; have x0 := cell_only h0 hSw nBh; have x1 := cell_only h1 hSw nBh; have x2 := cell_only h2 hSw nBh; have x3 := cell_only h3 hSw nBh; have x4 := cell_only h4 hSw nBh; have x5 := cell_only h5 hSw nBh; go_simp <;> (try with_reducible rfl)⟩
    simp only [Act.put, List.setIfInBounds_toArray, List.set_cons_zero, List.set_cons_succ]
    refine' wpAnyH_take (i := 5) ?hi5_4 ?hs5_4 ?hf5_4 ?hr5_4 ?hQ5_4 ?hy5_4 (by assumption) ?rest5_4
    case hi5_4 => simp only [List.getElem?_toArray, List.getElem?_cons_succ, List.getElem?_cons_zero] <;> rfl
    case hs5_4 => kernel_rfl
    case hf5_4 => kernel_rfl
    case hr5_4 => kernel_rfl
    case hQ5_4 => exact fun _ _ _ h => h
    case hy5_4 => exact Or.inl ⟨by rfl, fun w hSw => by have q0 := cell_only l2 hSw n1; have q1 := cell_only l3 hSw n1; have q8 := cell_only l8 hSw n1; have r0 := cell_only t0 hSw nT; have r1 := cell_only t1 hSw nT; have r2 := cell_only t2 hSw nT; have r3 := cell_only t3 hSw nT; have s1 := cell_only p1 hSw n1; have s2 := cell_only p2 hSw n1; have x0 := cell_only h0 hSw nBh; have x1 := cell_only h1 hSw nBh; have x2 := cell_only h2 hSw nBh; have x3 := cell_only h3 hSw nBh; have x4 := cell_only h4 hSw nBh; have x5 := cell_only h5 hSw nBh; go_simp <;> (try with_reducible rfl)⟩
    simp only [Act.put, List.setIfInBounds_toArray, List.set_cons_zero, List.set_cons_succ]
    refine' wpAnyH_take (i := 6) ?hi6_4 ?hs6_4 ?hf6_4 ?hr6_4 ?hQ6_4 ?hy6_4 (by assumption) ?rest6_4
    case hi6_4 => simp only [List.getElem?_toArray, List.getElem?_cons_succ, List.getElem?_cons_zero] <;> rfl
    case hs6_4 => kernel_rfl
    case hf6_4 => kernel_rfl
    case hr6_4 => kernel_rfl
    case hQ6_4 => exact fun _ _ _ h => h
    case hy6_4 => exact Or.inl ⟨by rfl, fun w hSw => by have q0 := cell_only l2 hSw n1; have q1 := cell_only l3 hSw n1; have q8 := cell_only l8 hSw n1; have r0 := cell_only t0 hSw nT; have r1 := cell_only t1 hSw nT; have r2 := cell_only t2 hSw nT; have r3 := cell_only t3 hSw nT; have s1 := cell_only p1 hSw n1; have s2 := cell_only p2 hSw n1; have x0 := cell_only h0 hSw nBh; have x1 := cell_only h1 hSw nBh; have x2 := cell_only h2 hSw nBh; have x3 := cell_only h3 hSw nBh; have x4 := cell_only h4 hSw nBh; have x5 := cell_only h5 hSw nBh; go_simp <;> (try with_reducible rfl)⟩
    simp only [Act.put, List.setIfInBounds_toArray, List.set_cons_zero, List.set_cons_succ]
    refine' wpAnyH_take (i := 7) ?hi7_4 ?hs7_4 ?hf7_4 ?hr7_4 ?hQ7_4 ?hy7_4 (by assumption) ?rest7_4
    case hi7_4 => simp only [List.getElem?_toArray, List.getElem?_cons_succ, List.getElem?_cons_zero] <;> rfl
    case hs7_4 => kernel_rfl
    case hf7_4 => kernel_rfl
    case hr7_4 => kernel_rfl
    case hQ7_4 => exact fun _ _ _ h => h
    case hy7_4 => exact Or.inl ⟨by rfl, fun w hSw => by have q0 := cell_only l2 hSw n1; have q1 := cell_only l3 hSw n1; have q8 := cell_only l8 hSw n1; have r0 := cell_only t0 hSw nT; have r1 := cell_only t1 hSw nT; have r2 := cell_only t2 hSw nT; have r3 := cell_only t3 hSw nT; have s1 := cell_only p1 hSw n1; have s2 := cell_only p2 hSw n1; have x0 := cell_only h0 hSw nBh; have x1 := cell_only h1 hSw nBh; have x2 := cell_only h2 hSw nBh; have x3 := cell_only h3 hSw nBh; have x4 := cell_only h4 hSw nBh; have x5 := cell_only h5 hSw nBh; go_simp <;> (try with_reducible rfl)⟩
    simp only [Act.put, List.setIfInBounds_toArray, List.set_cons_zero, List.set_cons_succ]
    refine' wpAnyH_take (i := 8) ?hi8_4 ?hs8_4 ?hf8_4 ?hr8_4 ?hQ8_4 ?hy8_4 (by assumption) ?rest8_4
    case hi8_4 => simp only [List.getElem?_toArray, List.getElem?_cons_succ, List.getElem?_cons_zero] <;> rfl
    case hs8_4 => kernel_rfl
    case hf8_4 => kernel_rfl
    case hr8_4 => kernel_rfl
    case hQ8_4 => exact fun _ _ _ h => h
    case hy8_4 => exact Or.inl ⟨by rfl, fun w hSw => by have q0 := cell_only l2 hSw n1; have q1 := cell_only l3 hSw n1; have q8 := cell_only l8 hSw n1; have r0 := cell_only t0 hSw nT; have r1 := cell_only t1 hSw nT; have r2 := cell_only t2 hSw nT; have r3 := cell_only t3 hSw nT; have s1 := cell_only p1 hSw n1; have s2 := cell_only p2 hSw n1; have x0 := cell_only h0 hSw nBh; have x1 := cell_only h1 hSw nBh; have x2 := cell_only h2 hSw nBh; have x3 := cell_only h3 hSw nBh; have x4 := cell_only h4 hSw nBh; have x5 := cell_only h5 hSw nBh; go_simp <;> (try with_reducible rfl)⟩
    simp only [Act.put, List.setIfInBounds_toArray, List.set_cons_zero, List.set_cons_succ]
    refine wpAnyH_ready (rs := [9]) (by kernel_rfl) (by simp) ?_
    refine AllReadyH.cons rfl (fun K hK => ?_) AllReadyH.nil
    go_simp
    with_reducible refine Calls.mono (HSH.out _ (HS6.out.touch (Touch.drew (Touch.refl (fun _ => False) w6)) (show ¬ False from id) (show ¬ False from id) (show ¬ False from id) (fun _ _ _ h => h))) ?_
    rintro e w7 ⟨rfl, hS7, o7⟩
    go_wp2_with fail
    refine hK.out _ _ (hHeld.trans_ o7) (fun hHeld => ?_)
    clear hK K
    refine wpAnyH_done (by kernel_rfl) ?_ _
    refine NoPanic.normal ?_
    have o7' : Only bw w6 w7 := hHeld
    have l2 := cell_only l2 o7' n1
    have l3 := cell_only l3 o7' n1
    have l8 := cell_only l8 o7' n1
    have t0 := cell_only t0 o7' nT
    have t1 := cell_only t1 o7' nT
    have t2 := cell_only t2 o7' nT
    have t3 := cell_only t3 o7' nT
    have p1 := cell_only p1 o7' n1
    have p2 := cell_only p2 o7' n1
    have OT7 : Only bw w w7 := Only.trans_ OT6 o7'
    have z7 := OT7.size
    have HS7 := Lib.hid hS7
    have HSN := Lib.hid (show ∀ w' (q : Nat), St w' ba bw n (numF f2 (tt + 2 + r) q da) bt A m cap C → (q : Int) < d → Calls Try.prog 43 #[.agg #[.pointer (some ⟨ba, 0, none⟩), .pointer (some ⟨bt, 0, none⟩)], .int .i64 tt, .int .i64 q, .int .i64 (da + q)] w' fun e w2 => e = .returned (.int .i64 0) ∧ St w2 ba bw n (numF f2 (tt + 2 + r) ((q : Int) + 1) da) bt A m cap C ∧ Only bw w' w2 from fun w' q hs hq => by
      have hwd := HWd2.out
      have e1 : atT n (numF f2 (tt + 2 + r) q da) m C tt = (⟨h', r, d, wd⟩, 0) := by rw [atT_two (numF_out (by omega)) (numF_out (by omega))]; exact HA6.out
      have e2 : objP (atT n (numF f2 (tt + 2 + r) q da) m C tt) = (⟨h', r, d, wd⟩, 0) := by
        rw [objP_same (by rw [e1]; exact fun q => absurd q.2 (by show ¬ (h'.cls = 0); rw [HHH.out]; omega))]
        exact e1
      have hh := setnum_yes ba bw n (numF f2 (tt + 2 + r) q da) bt A m cap C w' hs tt q (da + q) (slE_zero.2 ⟨by rw [e2], by omega, by rw [e2]; exact hq⟩)
      rw [e2] at hh
      rw [show numAt ((⟨h', r, d, wd⟩ : Th), (0 : Int)) tt q = tt + 2 + r + q from rfl, numF_succ f2 (show 0 ≤ tt + 2 + r by omega) q da] at hh
      exact hh)
    clear hS7 hHeld o7 HS6 HSH h0 h1 h2 h3 h4 h5 B6 B5 BT4 HA6
    go_wp2_with fail
    go_loopw [126] (fun i wr => ∃ (q : Nat), (q : Int) ≤ d ∧ i = .int .i64 q ∧ St wr ba bw n (numF f2 (tt + 2 + r) q da) bt A m cap C ∧ Only bw w7 wr) (fun i _ => (d - intOf i).toNat)
    case atStart => exact ⟨0, by omega, rfl, by show St _ ba bw n (numF f2 (tt + 2 + r) 0 da) bt A m cap C; rw [numF_zero]; exact HS7.out, Only.refl _ _⟩
    case round =>
      obtain ⟨wo, rfl⟩ : ∃ wo : World, wo = wr := ⟨_, rfl⟩
      obtain ⟨q, hq, rfl, hSg, oo⟩ := hrel
      have HSg := Lib.hid hSg
      have l2 := cell_only l2 oo n1
      have l3 := cell_only l3 oo n1
      have l8 := cell_only l8 oo n1
      have t0 := cell_only t0 oo nT
      have t1 := cell_only t1 oo nT
      have t2 := cell_only t2 oo nT
      have t3 := cell_only t3 oo nT
      have p1 := cell_only p1 oo n1
      have p2 := cell_only p2 oo n1
      clear hSg
      by_cases hlt : (q : Int) < d
      · have gq : IntKind.i64.wrap (da + (q : Int)) = da + q := IntWalk.i64_in _ ⟨by omega, by omega⟩
        go_wp2_with fail
        refine wp_region_noPanic ?_
        refine wp_region_held_drew (S := (fun w' => Only bw wo w')) (by kernel_rfl) (Only.refl _ wo).drew (fun hHeld => ?_)
        refine' wpAnyH_take (i := 0) ?hi0_5 ?hs0_5 ?hf0_5 ?hr0_5 ?hQ0_5 ?hy0_5 (by assumption) ?rest0_5
        case hi0_5 => simp only [List.getElem?_toArray, List.getElem?_cons_zero] <;> rfl
        case hs0_5 => kernel_rfl
        case hf0_5 => kernel_rfl
        case hr0_5 => kernel_rfl
        case hQ0_5 => exact fun _ _ _ h => h
        case hy0_5 => exact Or.inl ⟨by rfl, fun w hSw => by have q0 := cell_only l2 hSw n1; have q1 := cell_only l3 hSw n1; have q8 := cell_only l8 hSw n1; have r0 := cell_only t0 hSw nT; have r1 := cell_only t1 hSw nT; have r2 := cell_only t2 hSw nT; have r3 := cell_only t3 hSw nT; have s1 := cell_only p1 hSw n1; have s2 := cell_only p2 hSw n1; go_simp <;> (try with_reducible rfl)⟩
        simp only [Act.put, List.setIfInBounds_toArray, List.set_cons_zero, List.set_cons_succ]
        refine' wpAnyH_take (i := 1) ?hi1_5 ?hs1_5 ?hf1_5 ?hr1_5 ?hQ1_5 ?hy1_5 (by assumption) ?rest1_5
        case hi1_5 => simp only [List.getElem?_toArray, List.getElem?_cons_succ, List.getElem?_cons_zero] <;> rfl
        case hs1_5 => kernel_rfl
        case hf1_5 => kernel_rfl
        case hr1_5 => kernel_rfl
        case hQ1_5 => exact fun _ _ _ h => h
        case hy1_5 => exact Or.inl ⟨by rfl, fun w hSw => by have q0 := cell_only l2 hSw n1; have q1 := cell_only l3 hSw n1; have q8 := cell_only l8 hSw n1; have r0 := cell_only t0 hSw nT; have r1 := cell_only t1 hSw nT; have r2 := cell_only t2 hSw nT; have r3 := cell_only t3 hSw nT; have s1 := cell_only p1 hSw n1; have s2 := cell_only p2 hSw n1; go_simp <;> (try with_reducible rfl)⟩
        simp only [Act.put, List.setIfInBounds_toArray, List.set_cons_zero, List.set_cons_succ]
        refine' wpAnyH_take (i := 2) ?hi2_5 ?hs2_5 ?hf2_5 ?hr2_5 ?hQ2_5 ?hy2_5 (by assumption) ?rest2_5
        case hi2_5 => simp only [List.getElem?_toArray, List.getElem?_cons_succ, List.getElem?_cons_zero] <;> rfl
        case hs2_5 => kernel_rfl
        case hf2_5 => kernel_rfl
        case hr2_5 => kernel_rfl
        case hQ2_5 => exact fun _ _ _ h => h
        case hy2_5 => exact Or.inl ⟨by rfl, fun w hSw => by have q0 := cell_only l2 hSw n1; have q1 := cell_only l3 hSw n1; have q8 := cell_only l8 hSw n1; have r0 := cell_only t0 hSw nT; have r1 := cell_only t1 hSw nT; have r2 := cell_only t2 hSw nT; have r3 := cell_only t3 hSw nT; have s1 := cell_only p1 hSw n1; have s2 := cell_only p2 hSw n1; go_simp <;> (try with_reducible rfl)⟩
        simp only [Act.put, List.setIfInBounds_toArray, List.set_cons_zero, List.set_cons_succ]
        refine' wpAnyH_take (i := 3) ?hi3_5 ?hs3_5 ?hf3_5 ?hr3_5 ?hQ3_5 ?hy3_5 (by assumption) ?rest3_5
        case hi3_5 => simp only [List.getElem?_toArray, List.getElem?_cons_succ, List.getElem?_cons_zero] <;> rfl
        case hs3_5 => kernel_rfl
        case hf3_5 => kernel_rfl
        case hr3_5 => kernel_rfl
        case hQ3_5 => exact fun _ _ _ h => h
        case hy3_5 => exact Or.inl ⟨by rfl, fun w hSw => by have q0 := cell_only l2 hSw n1; have q1 := cell_only l3 hSw n1; have q8 := cell_only l8 hSw n1; have r0 := cell_only t0 hSw nT; have r1 := cell_only t1 hSw nT; have r2 := cell_only t2 hSw nT; have r3 := cell_only t3 hSw nT; have s1 := cell_only p1 hSw n1; have s2 := cell_only p2 hSw n1; go_simp <;> (try with_reducible rfl)⟩
        simp only [Act.put, List.setIfInBounds_toArray, List.set_cons_zero, List.set_cons_succ]
        refine' wpAnyH_take (i := 4) ?hi4_5 ?hs4_5 ?hf4_5 ?hr4_5 ?hQ4_5 ?hy4_5 (by assumption) ?rest4_5
        case hi4_5 => simp only [List.getElem?_toArray, List.getElem?_cons_succ, List.getElem?_cons_zero] <;> rfl
        case hs4_5 => kernel_rfl
        case hf4_5 => kernel_rfl
        case hr4_5 => kernel_rfl
        case hQ4_5 => exact fun _ _ _ h => h
        case hy4_5 => exact Or.inl ⟨by rfl, fun w hSw => by have q0 := cell_only l2 hSw n1; have q1 := cell_only l3 hSw n1; have q8 := cell_only l8 hSw n1; have r0 := cell_only t0 hSw nT; have r1 := cell_only t1 hSw nT; have r2 := cell_only t2 hSw nT; have r3 := cell_only t3 hSw nT; have s1 := cell_only p1 hSw n1; have s2 := cell_only p2 hSw n1; go_simp <;> (try with_reducible rfl)⟩
        simp only [Act.put, List.setIfInBounds_toArray, List.set_cons_zero, List.set_cons_succ]
        refine' wpAnyH_take (i := 5) ?hi5_5 ?hs5_5 ?hf5_5 ?hr5_5 ?hQ5_5 ?hy5_5 (by assumption) ?rest5_5
        case hi5_5 => simp only [List.getElem?_toArray, List.getElem?_cons_succ, List.getElem?_cons_zero] <;> rfl
        case hs5_5 => kernel_rfl
        case hf5_5 => kernel_rfl
        case hr5_5 => kernel_rfl
        case hQ5_5 => exact fun _ _ _ h => h
        case hy5_5 => exact Or.inl ⟨by rfl, fun w hSw => by have q0 := cell_only l2 hSw n1; have q1 := cell_only l3 hSw n1; have q8 := cell_only l8 hSw n1; have r0 := cell_only t0 hSw nT; have r1 := cell_only t1 hSw nT; have r2 := cell_only t2 hSw nT; have r3 := cell_only t3 hSw nT; have s1 := cell_only p1 hSw n1; have s2 := cell_only p2 hSw n1; go_simp <;> (try with_reducible rfl)⟩
        simp only [Act.put, List.setIfInBounds_toArray, List.set_cons_zero, List.set_cons_succ]
        refine' wpAnyH_take (i := 6) ?hi6_5 ?hs6_5 ?hf6_5 ?hr6_5 ?hQ6_5 ?hy6_5 (by assumption) ?rest6_5
        case hi6_5 => simp only [List.getElem?_toArray, List.getElem?_cons_succ, List.getElem?_cons_zero] <;> rfl
        case hs6_5 => kernel_rfl
        case hf6_5 => kernel_rfl
        case hr6_5 => kernel_rfl
        case hQ6_5 => exact fun _ _ _ h => h
        case hy6_5 => exact Or.inl ⟨by rfl, fun w hSw => by have q0 := cell_only l2 hSw n1; have q1 := cell_only l3 hSw n1; have q8 := cell_only l8 hSw n1; have r0 := cell_only t0 hSw nT; have r1 := cell_only t1 hSw nT; have r2 := cell_only t2 hSw nT; have r3 := cell_only t3 hSw nT; have s1 := cell_only p1 hSw n1; have s2 := cell_only p2 hSw n1; go_simp <;> (try with_reducible rfl)⟩
        simp only [Act.put, List.setIfInBounds_toArray, List.set_cons_zero, List.set_cons_succ]
        refine' wpAnyH_take (i := 7) ?hi7_5 ?hs7_5 ?hf7_5 ?hr7_5 ?hQ7_5 ?hy7_5 (by assumption) ?rest7_5
        case hi7_5 => simp only [List.getElem?_toArray, List.getElem?_cons_succ, List.getElem?_cons_zero] <;> rfl
        case hs7_5 => kernel_rfl
        case hf7_5 => kernel_rfl
        case hr7_5 => kernel_rfl
        case hQ7_5 => exact fun _ _ _ h => h
        case hy7_5 => exact Or.inl ⟨by rfl, fun w hSw => by have q0 := cell_only l2 hSw n1; have q1 := cell_only l3 hSw n1; have q8 := cell_only l8 hSw n1; have r0 := cell_only t0 hSw nT; have r1 := cell_only t1 hSw nT; have r2 := cell_only t2 hSw nT; have r3 := cell_only t3 hSw nT; have s1 := cell_only p1 hSw n1; have s2 := cell_only p2 hSw n1; go_simp <;> (try with_reducible rfl)⟩
        simp only [Act.put, List.setIfInBounds_toArray, List.set_cons_zero, List.set_cons_succ]
        refine' wpAnyH_take (i := 8) ?hi8_5 ?hs8_5 ?hf8_5 ?hr8_5 ?hQ8_5 ?hy8_5 (by assumption) ?rest8_5
        case hi8_5 => simp only [List.getElem?_toArray, List.getElem?_cons_succ, List.getElem?_cons_zero] <;> rfl
        case hs8_5 => kernel_rfl
        case hf8_5 => kernel_rfl
        case hr8_5 => kernel_rfl
        case hQ8_5 => exact fun _ _ _ h => h
        case hy8_5 => exact Or.inl ⟨by rfl, fun w hSw => by have q0 := cell_only l2 hSw n1; have q1 := cell_only l3 hSw n1; have q8 := cell_only l8 hSw n1; have r0 := cell_only t0 hSw nT; have r1 := cell_only t1 hSw nT; have r2 := cell_only t2 hSw nT; have r3 := cell_only t3 hSw nT; have s1 := cell_only p1 hSw n1; have s2 := cell_only p2 hSw n1; go_simp <;> (try with_reducible rfl)⟩
        simp only [Act.put, List.setIfInBounds_toArray, List.set_cons_zero, List.set_cons_succ]
        refine' wpAnyH_take (i := 9) ?hi9_5 ?hs9_5 ?hf9_5 ?hr9_5 ?hQ9_5 ?hy9_5 (by assumption) ?rest9_5
        case hi9_5 => simp only [List.getElem?_toArray, List.getElem?_cons_succ, List.getElem?_cons_zero] <;> rfl
        case hs9_5 => kernel_rfl
        case hf9_5 => kernel_rfl
        case hr9_5 => kernel_rfl
        case hQ9_5 => exact fun _ _ _ h => h
        case hy9_5 => exact Or.inl ⟨by rfl, fun w hSw => by have q0 := cell_only l2 hSw n1; have q1 := cell_only l3 hSw n1; have q8 := cell_only l8 hSw n1; have r0 := cell_only t0 hSw nT; have r1 := cell_only t1 hSw nT; have r2 := cell_only t2 hSw nT; have r3 := cell_only t3 hSw nT; have s1 := cell_only p1 hSw n1; have s2 := cell_only p2 hSw n1; go_simp <;> (try with_reducible rfl)⟩
        simp only [Act.put, List.setIfInBounds_toArray, List.set_cons_zero, List.set_cons_succ]
        refine' wpAnyH_take (i := 10) ?hi10_5 ?hs10_5 ?hf10_5 ?hr10_5 ?hQ10_5 ?hy10_5 (by assumption) ?rest10_5
        case hi10_5 => simp only [List.getElem?_toArray, List.getElem?_cons_succ, List.getElem?_cons_zero] <;> rfl
        case hs10_5 => kernel_rfl
        case hf10_5 => kernel_rfl
        case hr10_5 => kernel_rfl
        case hQ10_5 => exact fun _ _ _ h => h
        case hy10_5 => exact Or.inl ⟨by rfl, fun w hSw => by have q0 := cell_only l2 hSw n1; have q1 := cell_only l3 hSw n1; have q8 := cell_only l8 hSw n1; have r0 := cell_only t0 hSw nT; have r1 := cell_only t1 hSw nT; have r2 := cell_only t2 hSw nT; have r3 := cell_only t3 hSw nT; have s1 := cell_only p1 hSw n1; have s2 := cell_only p2 hSw n1; go_simp <;> (try with_reducible rfl)⟩
        simp only [Act.put, List.setIfInBounds_toArray, List.set_cons_zero, List.set_cons_succ]
        refine' wpAnyH_take (i := 11) ?hi11_5 ?hs11_5 ?hf11_5 ?hr11_5 ?hQ11_5 ?hy11_5 (by assumption) ?rest11_5
        case hi11_5 => simp only [List.getElem?_toArray, List.getElem?_cons_succ, List.getElem?_cons_zero] <;> rfl
        case hs11_5 => kernel_rfl
        case hf11_5 => kernel_rfl
        case hr11_5 => kernel_rfl
        case hQ11_5 => exact fun _ _ _ h => h
        case hy11_5 => exact Or.inl ⟨by rfl, fun w hSw => by have q0 := cell_only l2 hSw n1; have q1 := cell_only l3 hSw n1; have q8 := cell_only l8 hSw n1; have r0 := cell_only t0 hSw nT; have r1 := cell_only t1 hSw nT; have r2 := cell_only t2 hSw nT; have r3 := cell_only t3 hSw nT; have s1 := cell_only p1 hSw n1; have s2 := cell_only p2 hSw n1; go_simp <;> (try with_reducible rfl)⟩
        simp only [Act.put, List.setIfInBounds_toArray, List.set_cons_zero, List.set_cons_succ]
        refine' wpAnyH_take (i := 12) ?hi12_5 ?hs12_5 ?hf12_5 ?hr12_5 ?hQ12_5 ?hy12_5 (by assumption) ?rest12_5
        case hi12_5 => simp only [List.getElem?_toArray, List.getElem?_cons_succ, List.getElem?_cons_zero] <;> rfl
        case hs12_5 => kernel_rfl
        case hf12_5 => kernel_rfl
        case hr12_5 => kernel_rfl
        case hQ12_5 => exact fun _ _ _ h => h
        case hy12_5 => exact Or.inl ⟨by rfl, fun w hSw => by have q0 := cell_only l2 hSw n1; have q1 := cell_only l3 hSw n1; have q8 := cell_only l8 hSw n1; have r0 := cell_only t0 hSw nT; have r1 := cell_only t1 hSw nT; have r2 := cell_only t2 hSw nT; have r3 := cell_only t3 hSw nT; have s1 := cell_only p1 hSw n1; have s2 := cell_only p2 hSw n1; go_simp <;> (try with_reducible rfl)⟩
        simp only [Act.put, List.setIfInBounds_toArray, List.set_cons_zero, List.set_cons_succ]
        refine' wpAnyH_take (i := 13) ?hi13_5 ?hs13_5 ?hf13_5 ?hr13_5 ?hQ13_5 ?hy13_5 (by assumption) ?rest13_5
        case hi13_5 => simp only [List.getElem?_toArray, List.getElem?_cons_succ, List.getElem?_cons_zero] <;> rfl
        case hs13_5 => kernel_rfl
        case hf13_5 => kernel_rfl
        case hr13_5 => kernel_rfl
        case hQ13_5 => exact fun _ _ _ h => h
        case hy13_5 => exact Or.inl ⟨by rfl, fun w hSw => by have q0 := cell_only l2 hSw n1; have q1 := cell_only l3 hSw n1; have q8 := cell_only l8 hSw n1; have r0 := cell_only t0 hSw nT; have r1 := cell_only t1 hSw nT; have r2 := cell_only t2 hSw nT; have r3 := cell_only t3 hSw nT; have s1 := cell_only p1 hSw n1; have s2 := cell_only p2 hSw n1; go_simp <;> (try with_reducible rfl)⟩
        simp only [Act.put, List.setIfInBounds_toArray, List.set_cons_zero, List.set_cons_succ]
        refine wpAnyH_ready (rs := [14]) (by kernel_rfl) (by simp) ?_
        refine AllReadyH.cons rfl (fun K hK => ?_) AllReadyH.nil
        go_simp
        with_reducible refine Calls.mono (HSN.out _ q (HSg.out.keep (Touch.drew (Touch.refl (fun _ => False) wo))) hlt) ?_
        rintro e w9 ⟨rfl, hS9, o9⟩
        go_wp2_with fail
        refine hK.out _ _ (hHeld.trans_ o9) (fun hHeld => ?_)
        clear hK K
        refine wpAnyH_done (by kernel_rfl) ?_ _
        refine NoPanic.normal ?_
        go_wp2_with fail
        go_roundw
        case rel => exact ⟨q + 1, by omega, by go_num, by rw [show (((q + 1 : Nat)) : Int) = (q : Int) + 1 by omega]; exact hS9, Only.trans_ oo hHeld⟩
        case measure => simp [intOf]; omega
      · have hqd : (q : Int) = d := by omega
        have OT8 : Only bw w wo := Only.trans_ OT7 oo
        have z8 := OT8.size
        have HB8 := Lib.hid (HBh.out.touch OT8 n1)
        have l17 := HB8.out.c 17 _ rfl
        have fl17 := HB8.out.fz 17
        have hat8 := HAt.out.touch OT8 (fun kk e h => by have := (HAt.out.lt kk e).1; have : kk = bw := h; omega)
        have hx8 := HB8.out.lt
        have HLow := Lib.hid (fun kk (e : av.ownBlock = some kk) => (HAt.out.lt kk e).1)
        have hsb8 : base ≤ wo.heap.size := by omega
        have H8 := Lib.hid hat8
        have HQd := Lib.hid hqd
        clear oo hqd hat8 HSN
        go_upto_region 21 with fail
        go_cut [] from 145 to 158 (fun wx => ∃ av', BL wx xb 42 (lfV ba bt (s.sp F E) thr av' rov dv (some ⟨ab, ao, none⟩) m cc) ∧ OwnInts wx base av' (s.at_ ++ [tt]) ∧ (∀ kk, av'.ownBlock = some kk → av.ownBlock = some kk ∨ w.heap.size ≤ kk) ∧ Touch (fun kk => kk = xb ∨ av.ownBlock = some kk) wo wx)
        case first =>
          clear HSg HA2 HI HBh HAt HS7 HH2 HHH HOk HYes HNo HSt
          refine wp_region_noPanic ?_
          refine wp_region_held_drew (S := (fun w' => Touch (fun kk => kk = xb ∨ av.ownBlock = some kk) wo w' ∧ w'.cell? ⟨xb, o + 1, none⟩ = some (.int .i64 tt))) (by kernel_rfl) ⟨(Touch.refl (fun kk => kk = xb ∨ av.ownBlock = some kk) wo).drew, p1⟩ (fun hHeld => ?_)
          refine' wpAnyH_take (i := 0) ?hi0_1 ?hs0_1 ?hf0_1 ?hr0_1 ?hQ0_1 ?hy0_1 (by assumption) ?rest0_1
          case hi0_1 => simp only [List.getElem?_toArray, List.getElem?_cons_zero] <;> rfl
          case hs0_1 => kernel_rfl
          case hf0_1 => kernel_rfl
          case hr0_1 => kernel_rfl
          case hQ0_1 => exact fun _ _ _ h => h
          case hy0_1 => exact Or.inl ⟨by rfl, fun w hSw => by go_simp <;> (try with_reducible rfl)⟩
          simp only [Act.put, List.setIfInBounds_toArray, List.set_cons_zero, List.set_cons_succ]
          refine' wpAnyH_take (i := 1) ?hi1_1 ?hs1_1 ?hf1_1 ?hr1_1 ?hQ1_1 ?hy1_1 (by assumption) ?rest1_1
          case hi1_1 => simp only [List.getElem?_toArray, List.getElem?_cons_succ, List.getElem?_cons_zero] <;> rfl
          case hs1_1 => kernel_rfl
          case hf1_1 => kernel_rfl
          case hr1_1 => kernel_rfl
          case hQ1_1 => exact fun _ _ _ h => h
          case hy1_1 => exact Or.inl ⟨by rfl, fun w hSw => by go_simp <;> (try with_reducible rfl)⟩
          simp only [Act.put, List.setIfInBounds_toArray, List.set_cons_zero, List.set_cons_succ]
          refine' wpAnyH_take (i := 2) ?hi2_1 ?hs2_1 ?hf2_1 ?hr2_1 ?hQ2_1 ?hy2_1 (by assumption) ?rest2_1
          case hi2_1 => simp only [List.getElem?_toArray, List.getElem?_cons_succ, List.getElem?_cons_zero] <;> rfl
          case hs2_1 => kernel_rfl
          case hf2_1 => kernel_rfl
          case hr2_1 => kernel_rfl
          case hQ2_1 => exact fun _ _ _ h => h
          case hy2_1 => exact Or.inl ⟨by rfl, fun w hSw => by go_simp <;> (try with_reducible rfl)⟩
          simp only [Act.put, List.setIfInBounds_toArray, List.set_cons_zero, List.set_cons_succ]
          refine' wpAnyH_take (i := 3) ?hi3_1 ?hs3_1 ?hf3_1 ?hr3_1 ?hQ3_1 ?hy3_1 (by assumption) ?rest3_1
          case hi3_1 => simp only [List.getElem?_toArray, List.getElem?_cons_succ, List.getElem?_cons_zero] <;> rfl
          case hs3_1 => kernel_rfl
          case hf3_1 => kernel_rfl
          case hr3_1 => kernel_rfl
          case hQ3_1 => exact fun _ _ _ h => h
          case hy3_1 => exact Or.inl ⟨by rfl, fun w hSw => by go_simp <;> (try with_reducible rfl)⟩
          simp only [Act.put, List.setIfInBounds_toArray, List.set_cons_zero, List.set_cons_succ]
          refine' wpAnyH_take (i := 5) ?hi5_1 ?hs5_1 ?hf5_1 ?hr5_1 ?hQ5_1 ?hy5_1 (by assumption) ?rest5_1
          case hi5_1 => simp only [List.getElem?_toArray, List.getElem?_cons_succ, List.getElem?_cons_zero] <;> rfl
          case hs5_1 => kernel_rfl
          case hf5_1 => kernel_rfl
          case hr5_1 => kernel_rfl
          case hQ5_1 => exact fun _ _ _ h => h
          case hy5_1 => exact Or.inl ⟨by rfl, fun w hSw => by have q1 := hSw.2; go_simp <;> (try with_reducible rfl)⟩
          simp only [Act.put, List.setIfInBounds_toArray, List.set_cons_zero, List.set_cons_succ]
          refine' wpAnyH_take (i := 6) ?hi6_1 ?hs6_1 ?hf6_1 ?hr6_1 ?hQ6_1 ?hy6_1 (by assumption) ?rest6_1
          case hi6_1 => simp only [List.getElem?_toArray, List.getElem?_cons_succ, List.getElem?_cons_zero] <;> rfl
          case hs6_1 => kernel_rfl
          case hf6_1 => kernel_rfl
          case hr6_1 => kernel_rfl
          case hQ6_1 => exact fun _ _ _ h => h
          case hy6_1 => exact Or.inl ⟨by rfl, fun w hSw => by have q1 := hSw.2; go_simp <;> (try with_reducible rfl)⟩
          simp only [Act.put, List.setIfInBounds_toArray, List.set_cons_zero, List.set_cons_succ]
          refine' wpAnyH_take (i := 7) ?hi7_1 ?hs7_1 ?hf7_1 ?hr7_1 ?hQ7_1 ?hy7_1 (by assumption) ?rest7_1
          case hi7_1 => simp only [List.getElem?_toArray, List.getElem?_cons_succ, List.getElem?_cons_zero] <;> rfl
          case hs7_1 => kernel_rfl
          case hf7_1 => kernel_rfl
          case hr7_1 => kernel_rfl
          case hQ7_1 => exact fun _ _ _ h => h
          case hy7_1 => exact Or.inl ⟨by rfl, fun w hSw => by have q1 := hSw.2; go_simp <;> (try with_reducible rfl)⟩
          simp only [Act.put, List.setIfInBounds_toArray, List.set_cons_zero, List.set_cons_succ]
          refine' wpAnyH_take (i := 8) ?hi8_1 ?hs8_1 ?hf8_1 ?hr8_1 ?hQ8_1 ?hy8_1 (by assumption) ?rest8_1
          case hi8_1 => simp only [List.getElem?_toArray, List.getElem?_cons_succ, List.getElem?_cons_zero] <;> rfl
          case hs8_1 => kernel_rfl
          case hf8_1 => kernel_rfl
          case hr8_1 => kernel_rfl
          case hQ8_1 => exact fun _ _ _ h => h
          case hy8_1 => exact Or.inl ⟨by rfl, fun w hSw => by have q1 := hSw.2; go_simp <;> (try with_reducible rfl)⟩
          simp only [Act.put, List.setIfInBounds_toArray, List.set_cons_zero, List.set_cons_succ]
          refine wpAnyH_ready (rs := [4, 9]) (by kernel_rfl) (by simp) ?_
          refine (AllReadyH.cons rfl (fun K hK => ?_) (AllReadyH.cons rfl (fun K hK => ?_) AllReadyH.nil))
          · go_simp
            refine hK.out _ _ hHeld (fun hHeld => ?_)
            clear hK K
            refine wpAnyH_ready (rs := [9]) (by kernel_rfl) (by simp) ?_
            refine (AllReadyH.cons rfl (fun K hK => ?_) AllReadyH.nil)
            go_simp
            have ka : Keeps wo ((wo.drew).alloc (.cells (#[.int .i64 tt]) 3)) := (Touch.refl _ wo).drew.alloc _
            refine hK.out _ _ ⟨ka.mono (fun _ h _ => h.elim), cell_keep p1 ka⟩ (fun hHeld => ?_)
            clear hK K
            refine wpAnyH_ready (rs := [10]) (by kernel_rfl) (by simp) ?_
            refine (AllReadyH.cons rfl (fun K hK => ?_) AllReadyH.nil)
            rw [if_pos (show Region.wanted _ _ = true from rfl)]
            refine A5.wp_app_ints (.tmp 149) (.tmp 154) rfl base av s.at_ (H8.out.alloc (.cells (#[.int .i64 tt]) 3)) rfl ⟨wo.heap.size, 0, none⟩ 1 1 rfl (fun _ => tt) (rd_one wo.drew wo.heap.size tt rfl) (by omega) (by simp; omega) ?_
            intro v9 w9 hown9 hgr9 hbl9
            have HBl := Lib.hid (show ∀ kk, v9.ownBlock = some kk → av.ownBlock = some kk ∨ w.heap.size ≤ kk from fun kk e => by { rcases hbl9 with h | h; { exact .inl (h ▸ e) }; { rw [h] at e; simp at e; exact .inr (by omega) } })
            clear hbl9
            obtain ⟨ae, ce, hv9⟩ := hown9.form
            simp only [List.length_append, List.length_map, List.length_range] at hv9
            subst hv9
            have B9 := BL.grown (BL.drew (BL.alloc HB8.out (.cells (#[.int .i64 tt]) 3))) hgr9 (fun e => by have := HLow.out _ e; omega)
            have T9b : Touch (fun kk => av.ownBlock = some kk) wo w9 := Touch.grown (show Touch (fun kk => av.ownBlock = some kk) wo ((wo.alloc (.cells (#[.int .i64 tt]) 3)).drew) from ka.mono (fun _ h _ => h.elim)) hgr9 (fun kk e _ => e)
            have T9 : Touch (fun kk => kk = xb ∨ av.ownBlock = some kk) wo w9 := T9b.mono (fun _ h _ => .inr h)
            have c9 := B9.c 17 _ rfl
            have fz9 := B9.fz 17
            have HO9 := Lib.hid hown9
            have g9 := cell_t p1 T9b (fun e => by have : base ≤ xb := HLow.out _ e; omega)
            clear hown9 hgr9
            refine hK.out _ _ ⟨T9, g9⟩ (fun hHeld => ?_)
            clear hK K
            simp only [Act.put, List.setIfInBounds_toArray, List.set_cons_zero, List.set_cons_succ]
            refine' wpAnyH_take (i := 11) ?hi11_2 ?hs11_2 ?hf11_2 ?hr11_2 ?hQ11_2 ?hy11_2 (by assumption) ?rest11_2
            case hi11_2 => simp only [List.getElem?_toArray, List.getElem?_cons_succ, List.getElem?_cons_zero] <;> rfl
            case hs11_2 => kernel_rfl
            case hf11_2 => kernel_rfl
            case hr11_2 => kernel_rfl
            case hQ11_2 => exact fun _ _ _ h => h
            case hy11_2 => exact Or.inl ⟨by rfl, fun w hSw => by go_simp <;> (try with_reducible rfl)⟩
            simp only [Act.put, List.setIfInBounds_toArray, List.set_cons_zero, List.set_cons_succ]
            refine' wpAnyH_take (i := 12) ?hi12_2 ?hs12_2 ?hf12_2 ?hr12_2 ?hQ12_2 ?hy12_2 (by assumption) ?rest12_2
            case hi12_2 => simp only [List.getElem?_toArray, List.getElem?_cons_succ, List.getElem?_cons_zero] <;> rfl
            case hs12_2 => kernel_rfl
            case hf12_2 => kernel_rfl
            case hr12_2 => kernel_rfl
            case hQ12_2 => exact fun _ _ _ h => h
            case hy12_2 => exact Or.inl ⟨by rfl, fun w hSw => by go_simp <;> (try with_reducible rfl)⟩
            simp only [Act.put, List.setIfInBounds_toArray, List.set_cons_zero, List.set_cons_succ]
            refine wpAnyH_ready (rs := [13]) (by kernel_rfl) (by simp) ?_
            refine (AllReadyH.cons rfl (fun K hK => ?_) AllReadyH.nil)
            go_simp
            have B10 := BL.set B9 17 (.slice ae (s.at_.length + 1) ce)
            refine hK.out _ _ ⟨Touch.setCell T9 (fun _ => .inl rfl) _, (lf_top (av := .slice ae (s.at_.length + 1) ce) B10 hk3 HO.out).trans (by show some (Value.int .i64 (s.t k)) = _; rw [HTT.out])⟩ (fun hHeld => ?_)
            clear hK K
            refine wpAnyH_done (by kernel_rfl) ?_ _
            refine NoPanic.normal ?_
            go_wp2_with fail
            go_meet
            exact ⟨_, B10, HO9.out.touch (Touch.set (Only.refl xb w9) 17 _) (fun kk e h => by have := (HO9.out.lt kk e).1; have : kk = xb := h; omega), HBl.out, hHeld.1⟩
          · go_simp
            have ka : Keeps wo ((wo.drew).alloc (.cells (#[.int .i64 tt]) 3)) := (Touch.refl _ wo).drew.alloc _
            refine hK.out _ _ ⟨ka.mono (fun _ h _ => h.elim), cell_keep p1 ka⟩ (fun hHeld => ?_)
            clear hK K
            refine wpAnyH_ready (rs := [4]) (by kernel_rfl) (by simp) ?_
            refine (AllReadyH.cons rfl (fun K hK => ?_) AllReadyH.nil)
            go_simp
            refine hK.out _ _ hHeld (fun hHeld => ?_)
            clear hK K
            refine wpAnyH_ready (rs := [10]) (by kernel_rfl) (by simp) ?_
            refine (AllReadyH.cons rfl (fun K hK => ?_) AllReadyH.nil)
            rw [if_pos (show Region.wanted _ _ = true from rfl)]
            refine A5.wp_app_ints (.tmp 149) (.tmp 154) rfl base av s.at_ (H8.out.alloc (.cells (#[.int .i64 tt]) 3)) rfl ⟨wo.heap.size, 0, none⟩ 1 1 rfl (fun _ => tt) (rd_one wo.drew wo.heap.size tt rfl) (by omega) (by simp; omega) ?_
            intro v9 w9 hown9 hgr9 hbl9
            have HBl := Lib.hid (show ∀ kk, v9.ownBlock = some kk → av.ownBlock = some kk ∨ w.heap.size ≤ kk from fun kk e => by { rcases hbl9 with h | h; { exact .inl (h ▸ e) }; { rw [h] at e; simp at e; exact .inr (by omega) } })
            clear hbl9
            obtain ⟨ae, ce, hv9⟩ := hown9.form
            simp only [List.length_append, List.length_map, List.length_range] at hv9
            subst hv9
            have B9 := BL.grown (BL.drew (BL.alloc HB8.out (.cells (#[.int .i64 tt]) 3))) hgr9 (fun e => by have := HLow.out _ e; omega)
            have T9b : Touch (fun kk => av.ownBlock = some kk) wo w9 := Touch.grown (show Touch (fun kk => av.ownBlock = some kk) wo ((wo.alloc (.cells (#[.int .i64 tt]) 3)).drew) from ka.mono (fun _ h _ => h.elim)) hgr9 (fun kk e _ => e)
            have T9 : Touch (fun kk => kk = xb ∨ av.ownBlock = some kk) wo w9 := T9b.mono (fun _ h _ => .inr h)
            have c9 := B9.c 17 _ rfl
            have fz9 := B9.fz 17
            have HO9 := Lib.hid hown9
            have g9 := cell_t p1 T9b (fun e => by have : base ≤ xb := HLow.out _ e; omega)
            clear hown9 hgr9
            refine hK.out _ _ ⟨T9, g9⟩ (fun hHeld => ?_)
            clear hK K
            simp only [Act.put, List.setIfInBounds_toArray, List.set_cons_zero, List.set_cons_succ]
            refine' wpAnyH_take (i := 11) ?hi11_3 ?hs11_3 ?hf11_3 ?hr11_3 ?hQ11_3 ?hy11_3 (by assumption) ?rest11_3
            case hi11_3 => simp only [List.getElem?_toArray, List.getElem?_cons_succ, List.getElem?_cons_zero] <;> rfl
            case hs11_3 => kernel_rfl
            case hf11_3 => kernel_rfl
            case hr11_3 => kernel_rfl
            case hQ11_3 => exact fun _ _ _ h => h
            case hy11_3 => exact Or.inl ⟨by rfl, fun w hSw => by go_simp <;> (try with_reducible rfl)⟩
            simp only [Act.put, List.setIfInBounds_toArray, List.set_cons_zero, List.set_cons_succ]
            refine' wpAnyH_take (i := 12) ?hi12_3 ?hs12_3 ?hf12_3 ?hr12_3 ?hQ12_3 ?hy12_3 (by assumption) ?rest12_3
            case hi12_3 => simp only [List.getElem?_toArray, List.getElem?_cons_succ, List.getElem?_cons_zero] <;> rfl
            case hs12_3 => kernel_rfl
            case hf12_3 => kernel_rfl
            case hr12_3 => kernel_rfl
            case hQ12_3 => exact fun _ _ _ h => h
            case hy12_3 => exact Or.inl ⟨by rfl, fun w hSw => by go_simp <;> (try with_reducible rfl)⟩
            simp only [Act.put, List.setIfInBounds_toArray, List.set_cons_zero, List.set_cons_succ]
            refine wpAnyH_ready (rs := [13]) (by kernel_rfl) (by simp) ?_
            refine (AllReadyH.cons rfl (fun K hK => ?_) AllReadyH.nil)
            go_simp
            have B10 := BL.set B9 17 (.slice ae (s.at_.length + 1) ce)
            refine hK.out _ _ ⟨Touch.setCell T9 (fun _ => .inl rfl) _, (lf_top (av := .slice ae (s.at_.length + 1) ce) B10 hk3 HO.out).trans (by show some (Value.int .i64 (s.t k)) = _; rw [HTT.out])⟩ (fun hHeld => ?_)
            clear hK K
            refine wpAnyH_done (by kernel_rfl) ?_ _
            refine NoPanic.normal ?_
            go_wp2_with fail
            go_meet
            exact ⟨_, B10, HO9.out.touch (Touch.set (Only.refl xb w9) 17 _) (fun kk e h => by have := (HO9.out.lt kk e).1; have : kk = xb := h; omega), HBl.out, hHeld.1⟩
        case rest =>
        obtain ⟨w9, rfl⟩ : ∃ w9 : World, w9 = wc := ⟨_, rfl⟩
        obtain ⟨av', B9, hown9, how9, o9⟩ := hcut
        have HOw9 := Lib.hid how9
        have H9 := Lib.hid hown9
        have HB9 := Lib.hid B9
        have p19 : w9.cell? ⟨xb, o + 1, none⟩ = some (.int .i64 tt) := (lf_top B9 hk3 HO.out).trans (by show some (Value.int .i64 (s.t k)) = _; rw [HTT.out])
        have gadd : IntKind.i64.wrap (tt + wd) = tt + wd := IntWalk.i64_in _ ⟨by omega, by omega⟩
        have fz19 := B9.fz (o + 1)
        have HO9 := Lib.hid o9
        have zo9 := o9.size
        clear how9 hown9 B9 o9 l17 fl17 p1 p2
        go_wp2_with fail
        go_returns
        have hwd := HWd2.out
        have os := Touch.set (Only.refl xb w9) (o + 1) (.int .i64 (tt + wd))
        have hA9 : ∀ b off, A = some ⟨b, off, none⟩ → ¬ (b = xb ∨ av.ownBlock = some b) := fun b off e h => by
          have := n8 b off e
          rcases h with h | h
          · omega
          · have := HLow.out b h; omega
        rw [HYes.out hroom]
        refine ⟨av', rfl, ?_, ?_, ?_, HOw9.out, ?_⟩
        · have e : lwF s.f C m tt c len (ag % 8) da = numF f2 (tt + 2 + r) q da := by
            unfold lwF
            rw [HA8.out, HH2.out, HR.out, HD_.out, HQd.out]
          show St _ ba bw n (lwF s.f C m tt c len (ag % 8) da) bt A m cap C
          rw [e]
          refine (HSg.out.touch HO9.out (fun h => ?_) (fun h => ?_) (fun h => ?_) hA9).touch os (Ne.symm n4) (Ne.symm n1) (Ne.symm n5) (fun b off e => (n8 b off e).1)
          all_goals (
            rcases h with h | h
            · omega
            · have := HLow.out _ h; omega)
        · have hb := lf_fz HB9.out (tt + wd) hk3 HO.out
          have e : (fun j => if j = k then (⟨(s.sp F E k).f, tt + wd, (s.sp F E k).e⟩ : Sp) else s.sp F E j) = Lw.sp ⟨lwF s.f C m tt c len (ag % 8) da, fun j => if j = k then tt + wd else s.t j, fun j => if j = k then s.g k ++ [tt] else s.g j, s.at_ ++ [tt]⟩ F E := by
            funext j
            unfold Lw.sp
            by_cases e : j = k
            · subst e; simp
            · simp [e]
          rw [e] at hb
          exact hb
        · exact H9.out.touch os (fun kk e h => by have := (H9.out.lt kk e).1; have : kk = xb := h; omega)
        · exact Touch.setCell (Touch.trans (OT8.mono (fun x hx _ => .inr (.inl hx))) HO9.out (fun x hx _ => hx.elim .inl (fun h => .inr (.inr h)))) (fun _ => .inl rfl) _

end Go.Proofs.Ytabfbgkablbeeaa
