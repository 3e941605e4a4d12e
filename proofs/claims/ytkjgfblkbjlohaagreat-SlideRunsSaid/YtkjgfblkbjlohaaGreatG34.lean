/- Layer 16's lay. -/
import Derived.Test.YtkjgfblkbjlohaaGreatG33
set_option linter.all false

namespace Go.Proofs.YtkjgfblkbjlohaaGreat
open Go.RowKit

def LBlk (w : World) (xb ba bt gs scp : Nat) (av stv rov : Value) (Ac : Option Addr) (m cc : Nat) : Prop := BL w xb 36 [.pointer (some ⟨ba, 0, none⟩), .pointer (some ⟨bt, 0, none⟩), .pointer (some ⟨ba, 0, none⟩), .pointer (some ⟨bt, 0, none⟩), .slice (some ⟨gs, 0, none⟩) 3 scp, av, stv, rov, .slice Ac m cc]
/-- Behind lay: the arena, the spaces, the objects. -/
structure LSt (w : World) (ba bw n : Nat) (f : Nat → Int) (bt : Nat) (A : Option Addr) (m cap : Nat) (C : Nat → Cl) (xb gs scp : Nat) (av stv rov : Value) (Ac : Option Addr) (cc : Nat) (L : Nat → Sp) (G : Nat → List Int) (ats : List Int) (base : Nat) : Prop where
  st : St w ba bw n f bt A m cap C
  blk : LBlk w xb ba bt gs scp av stv rov Ac m cc
  row : NowR 56 w (some ⟨gs, 0, none⟩) 3 0 w.heap.size L
  at_ : OwnInts w base av ats
  inv : LInv n m f C L G ats
def LayOut (ba bw n : Nat) (f : Nat → Int) (bt : Nat) (A : Option Addr) (m cap : Nat) (C : Nat → Cl) (xb gs scp : Nat) (av stv rov : Value) (Ac : Option Addr) (cc : Nat) (L : Nat → Sp) (G : Nat → List Int) (ats : List Int) (base : Nat) (cl : Int) (w : World) (e : Ending) (w' : World) : Prop :=
  ∃ b f' L' G' ats' av', e = .returned (.bool b) ∧ LSt w' ba bw n f' bt A m cap C xb gs scp av' stv rov Ac cc L' G' ats' base ∧ (b = true → ∃ a, ats' = ats ++ [a]) ∧ (b = false → ats' = ats) ∧ (∀ j, (L' j).f = (L j).f ∧ (L' j).e = (L j).e) ∧ (∀ kk, av'.ownBlock = some kk → av.ownBlock = some kk ∨ w.heap.size ≤ kk) ∧
    (cl % ((m : Int) + 1) ≠ 0 → (∀ j, j < 3 → fullJ (atT n f m C) L G j) → ∀ j, j < 3 → fullJ (atT n f' m C) L' G' j) ∧
    Touch (fun kk => kk = xb ∨ kk = bw ∨ kk = gs ∨ av.ownBlock = some kk) w w'
set_option maxRecDepth 100000 in
set_option maxHeartbeats 4000000 in
theorem lay16_any (ba bw n : Nat) (f : Nat → Int) (bt : Nat) (A : Option Addr) (m cap : Nat) (C : Nat → Cl) (w : World) (h : St w ba bw n f bt A m cap C)
    (xb gs scp : Nat) (av stv rov : Value) (Ac : Option Addr) (cc : Nat) (L : Nat → Sp) (G : Nat → List Int) (ats : List Int) (base : Nat) (hB : BL w xb 36 [.pointer (some ⟨ba, 0, none⟩), .pointer (some ⟨bt, 0, none⟩), .pointer (some ⟨ba, 0, none⟩), .pointer (some ⟨bt, 0, none⟩), .slice (some ⟨gs, 0, none⟩) 3 scp, av, stv, rov, .slice Ac m cc]) (hN : NowR 56 w (some ⟨gs, 0, none⟩) 3 0 w.heap.size L) (hat : OwnInts w base av ats) (hAc : Rd w Ac (m * 4) (clF C))
    (hI : LInv n m f C L G ats) (hn : 451 < n) (n1 : xb ≠ bw) (n2 : gs ≠ bw) (n3 : gs ≠ xb) (n4 : xb ≠ ba) (n5 : xb ≠ bt) (n6 : gs ≠ ba) (n7 : gs ≠ bt) (n8 : ∀ b off, A = some ⟨b, off, none⟩ → b ≠ xb ∧ b ≠ gs ∧ b < base) (n9 : xb < base ∧ bw < base ∧ gs < base ∧ ba < base ∧ bt < base ∧ base ≤ w.heap.size) (hal : ats.length ≤ 1000)
    (cl da wh : Int) (st : Bool) (hcl : 0 ≤ cl ∧ cl ≤ 255) (hda : 0 ≤ da ∧ da ≤ 255) (hwh : 0 ≤ wh ∧ wh ≤ 255) :
    Calls Tryz.prog 19 #[.pointer (some ⟨xb, 0, none⟩), .agg #[.int .u8 cl, .int .u8 da, .int .u8 wh, .bool st]] w (LayOut ba bw n f bt A m cap C xb gs scp av stv rov Ac cc L G ats base cl w) := by
  obtain ⟨hc0, hc1⟩ := hcl
  obtain ⟨hd0, hd1⟩ := hda
  obtain ⟨hw0, hw1⟩ := hwh
  have hle := h.ar.le
  have hml := h.tb.le
  obtain ⟨k, hk⟩ : ∃ k : Nat, wh % 3 = k := ⟨(wh % 3).toNat, by omega⟩
  have hk3 : k < 3 := by omega
  have hkt : wh.tmod 3 = k := by rw [Int.tmod_eq_emod_of_nonneg hw0]; exact hk
  obtain ⟨c, hc⟩ : ∃ c : Nat, cl % ((m : Int) + 1) = c := ⟨(cl % ((m : Int) + 1)).toNat, by have := Int.emod_nonneg cl (show (m : Int) + 1 ≠ 0 by omega); omega⟩
  have hct : cl.tmod ((m : Int) + 1) = c := by rw [Int.tmod_eq_emod_of_nonneg hc0]; exact hc
  have hcm : c ≤ m := by have := Int.emod_lt_of_pos cl (show (0 : Int) < (m : Int) + 1 by omega); omega
  obtain ⟨gs', he, _, hgl, p0, p1, p2, f0, f1, f2⟩ := hN.at_ hk3
  simp only [Option.some.injEq, Addr.mk.injEq, and_true] at he
  subst he
  have hgI : (k : Int) < 3 := by omega
  have hm1 : ¬ ((m : Int) + 1 = 0) := by omega
  have gcl : IntKind.i64.wrap cl = cl := IntWalk.i64_in _ ⟨by omega, by omega⟩
  have gda : IntKind.i64.wrap da = da := IntWalk.i64_in _ ⟨by omega, by omega⟩
  have g1 : IntKind.i64.wrap ((m : Int) + 1) = (m : Int) + 1 := IntWalk.i64_in _ ⟨by omega, by omega⟩
  have hxl := hB.lt
  have HSt := Lib.hid h
  have HI := Lib.hid hI
  have HN := Lib.hid hN
  have HAt := Lib.hid hat
  have HBh := Lib.hid hB
  clear h hI hN hat
  go_enter Tryz.func19, Tryz.ntmps19
  go_upto_region 1 with fail
  refine named_code (fun w1 hW1 => ?_)
  have K1 : Keeps w w1 := by rw [hW1]; exact (Touch.refl _ w).alloc _
  have BT : BL w1 w.heap.size 70 [.int .u8 cl, .int .u8 da, .int .u8 wh, .bool st] := by rw [hW1]; exact BL.new1 _ _ _ [.int .u8 cl, .int .u8 da, .int .u8 wh, .bool st] _ rfl rfl
  have z1 : w1.heap.size = w.heap.size + 1 := by rw [hW1]; simp
  have hB1 := hB.keep K1
  have l2 := hB1.c 2 _ rfl
  have l3 := hB1.c 3 _ rfl
  have l4 := hB1.c 4 _ rfl
  have l8 := hB1.c 8 _ rfl
  have t0 := BT.c 0 _ rfl
  have t1 := BT.c 1 _ rfl
  have t2 := BT.c 2 _ rfl
  have t3 := BT.c 3 _ rfl
  have p0 := cell_keep p0 K1
  have p1 := cell_keep p1 K1
  have p2 := cell_keep p2 K1
  clear hW1 hB
  have HG := Lib.hid (show ∀ w' z, Keeps w w' → thB n (L k).t z = true → Calls Tryz.prog 55 #[stV ba bt, .int .i64 (L k).t, .int .i64 z] w' (GapOut ba bw n f bt A m cap C (L k).t z w') from fun w' z kk hT => gap_yes ba bw n f bt A m cap C w' (HSt.out.keep kk) (L k).t z hT HI.out.i64)
  have hRk := (rightB_iff _).1 (HI.out.rise k hk3).1
  have hEk := HI.out.ends k hk3
  have hF1 : 1 ≤ (L k).t := by
    have h1 := (HI.out.rise k hk3).2
    have h2 := (HI.out.rise 0 (by omega)).2
    cases k with
    | zero => have : endAt L 0 = 1 := rfl; omega
    | succ k =>
      have := rise_sep HI.out.rise (show 0 < k + 1 by omega) hk3
      have h3 := (rightB_iff _).1 (HI.out.rise 0 (by omega)).1
      have : endAt L 0 = 1 := rfl
      omega
  unfold stV at HG
  have HTe : ∃ te, te = (L k).e := ⟨_, rfl⟩
  generalize htt : (L k).t = tt at *
  generalize hte : (L k).e = te at *
  have HTT := Lib.hid htt
  have HTE := Lib.hid hte
  clear htt hte HTe
  have gsub : IntKind.i64.wrap (te - tt) = te - tt := IntWalk.i64_in _ ⟨by omega, by omega⟩
  have nT : w.heap.size ≠ bw := by omega
  refine wp_region_noPanic ?_
  refine wp_region_held_drew (S := (fun w' => Keeps w1 w')) (by kernel_rfl) (Touch.refl _ w1).drew (fun hHeld => ?_)
  refine' wpAnyH_take (i := 0) ?hi0_1 ?hs0_1 ?hf0_1 ?hr0_1 ?hQ0_1 ?hy0_1 (by assumption) ?rest0_1
  case hi0_1 => simp only [List.getElem?_toArray, List.getElem?_cons_zero] <;> rfl
  case hs0_1 => kernel_rfl
  case hf0_1 => kernel_rfl
  case hr0_1 => kernel_rfl
  case hQ0_1 => exact fun _ _ _ h => h
  case hy0_1 => exact Or.inl ⟨by rfl, fun w hSw => by have q0 := cell_keep l2 hSw; have q1 := cell_keep l3 hSw; have q4 := cell_keep l4 hSw; have q8 := cell_keep l8 hSw; have r0 := cell_keep t0 hSw; have r1 := cell_keep t1 hSw; have r2 := cell_keep t2 hSw; have r3 := cell_keep t3 hSw; have s1 := cell_keep p1 hSw; have s2 := cell_keep p2 hSw; go_simp <;> (try with_reducible rfl)⟩
  simp only [Act.put, List.setIfInBounds_toArray, List.set_cons_zero, List.set_cons_succ]
  refine' wpAnyH_take (i := 1) ?hi1_1 ?hs1_1 ?hf1_1 ?hr1_1 ?hQ1_1 ?hy1_1 (by assumption) ?rest1_1
  case hi1_1 => simp only [List.getElem?_toArray, List.getElem?_cons_succ, List.getElem?_cons_zero] <;> rfl
  case hs1_1 => kernel_rfl
  case hf1_1 => kernel_rfl
  case hr1_1 => kernel_rfl
  case hQ1_1 => exact fun _ _ _ h => h
  case hy1_1 => exact Or.inl ⟨by rfl, fun w hSw => by have q0 := cell_keep l2 hSw; have q1 := cell_keep l3 hSw; have q4 := cell_keep l4 hSw; have q8 := cell_keep l8 hSw; have r0 := cell_keep t0 hSw; have r1 := cell_keep t1 hSw; have r2 := cell_keep t2 hSw; have r3 := cell_keep t3 hSw; have s1 := cell_keep p1 hSw; have s2 := cell_keep p2 hSw; go_simp <;> (try with_reducible rfl)⟩
  simp only [Act.put, List.setIfInBounds_toArray, List.set_cons_zero, List.set_cons_succ]
  refine' wpAnyH_take (i := 2) ?hi2_1 ?hs2_1 ?hf2_1 ?hr2_1 ?hQ2_1 ?hy2_1 (by assumption) ?rest2_1
  case hi2_1 => simp only [List.getElem?_toArray, List.getElem?_cons_succ, List.getElem?_cons_zero] <;> rfl
  case hs2_1 => kernel_rfl
  case hf2_1 => kernel_rfl
  case hr2_1 => kernel_rfl
  case hQ2_1 => exact fun _ _ _ h => h
  case hy2_1 => exact Or.inl ⟨by rfl, fun w hSw => by have q0 := cell_keep l2 hSw; have q1 := cell_keep l3 hSw; have q4 := cell_keep l4 hSw; have q8 := cell_keep l8 hSw; have r0 := cell_keep t0 hSw; have r1 := cell_keep t1 hSw; have r2 := cell_keep t2 hSw; have r3 := cell_keep t3 hSw; have s1 := cell_keep p1 hSw; have s2 := cell_keep p2 hSw; go_simp <;> (try with_reducible rfl)⟩
  simp only [Act.put, List.setIfInBounds_toArray, List.set_cons_zero, List.set_cons_succ]
  refine' wpAnyH_take (i := 3) ?hi3_1 ?hs3_1 ?hf3_1 ?hr3_1 ?hQ3_1 ?hy3_1 (by assumption) ?rest3_1
  case hi3_1 => simp only [List.getElem?_toArray, List.getElem?_cons_succ, List.getElem?_cons_zero] <;> rfl
  case hs3_1 => kernel_rfl
  case hf3_1 => kernel_rfl
  case hr3_1 => kernel_rfl
  case hQ3_1 => exact fun _ _ _ h => h
  case hy3_1 => exact Or.inl ⟨by rfl, fun w hSw => by have q0 := cell_keep l2 hSw; have q1 := cell_keep l3 hSw; have q4 := cell_keep l4 hSw; have q8 := cell_keep l8 hSw; have r0 := cell_keep t0 hSw; have r1 := cell_keep t1 hSw; have r2 := cell_keep t2 hSw; have r3 := cell_keep t3 hSw; have s1 := cell_keep p1 hSw; have s2 := cell_keep p2 hSw; go_simp <;> (try with_reducible rfl)⟩
  simp only [Act.put, List.setIfInBounds_toArray, List.set_cons_zero, List.set_cons_succ]
  refine' wpAnyH_take (i := 4) ?hi4_1 ?hs4_1 ?hf4_1 ?hr4_1 ?hQ4_1 ?hy4_1 (by assumption) ?rest4_1
  case hi4_1 => simp only [List.getElem?_toArray, List.getElem?_cons_succ, List.getElem?_cons_zero] <;> rfl
  case hs4_1 => kernel_rfl
  case hf4_1 => kernel_rfl
  case hr4_1 => kernel_rfl
  case hQ4_1 => exact fun _ _ _ h => h
  case hy4_1 => exact Or.inl ⟨by rfl, fun w hSw => by have q0 := cell_keep l2 hSw; have q1 := cell_keep l3 hSw; have q4 := cell_keep l4 hSw; have q8 := cell_keep l8 hSw; have r0 := cell_keep t0 hSw; have r1 := cell_keep t1 hSw; have r2 := cell_keep t2 hSw; have r3 := cell_keep t3 hSw; have s1 := cell_keep p1 hSw; have s2 := cell_keep p2 hSw; go_simp <;> (try with_reducible rfl)⟩
  simp only [Act.put, List.setIfInBounds_toArray, List.set_cons_zero, List.set_cons_succ]
  refine' wpAnyH_take (i := 5) ?hi5_1 ?hs5_1 ?hf5_1 ?hr5_1 ?hQ5_1 ?hy5_1 (by assumption) ?rest5_1
  case hi5_1 => simp only [List.getElem?_toArray, List.getElem?_cons_succ, List.getElem?_cons_zero] <;> rfl
  case hs5_1 => kernel_rfl
  case hf5_1 => kernel_rfl
  case hr5_1 => kernel_rfl
  case hQ5_1 => exact fun _ _ _ h => h
  case hy5_1 => exact Or.inl ⟨by rfl, fun w hSw => by have q0 := cell_keep l2 hSw; have q1 := cell_keep l3 hSw; have q4 := cell_keep l4 hSw; have q8 := cell_keep l8 hSw; have r0 := cell_keep t0 hSw; have r1 := cell_keep t1 hSw; have r2 := cell_keep t2 hSw; have r3 := cell_keep t3 hSw; have s1 := cell_keep p1 hSw; have s2 := cell_keep p2 hSw; go_simp <;> (try with_reducible rfl)⟩
  simp only [Act.put, List.setIfInBounds_toArray, List.set_cons_zero, List.set_cons_succ]
  refine' wpAnyH_take (i := 6) ?hi6_1 ?hs6_1 ?hf6_1 ?hr6_1 ?hQ6_1 ?hy6_1 (by assumption) ?rest6_1
  case hi6_1 => simp only [List.getElem?_toArray, List.getElem?_cons_succ, List.getElem?_cons_zero] <;> rfl
  case hs6_1 => kernel_rfl
  case hf6_1 => kernel_rfl
  case hr6_1 => kernel_rfl
  case hQ6_1 => exact fun _ _ _ h => h
  case hy6_1 => exact Or.inl ⟨by rfl, fun w hSw => by have q0 := cell_keep l2 hSw; have q1 := cell_keep l3 hSw; have q4 := cell_keep l4 hSw; have q8 := cell_keep l8 hSw; have r0 := cell_keep t0 hSw; have r1 := cell_keep t1 hSw; have r2 := cell_keep t2 hSw; have r3 := cell_keep t3 hSw; have s1 := cell_keep p1 hSw; have s2 := cell_keep p2 hSw; go_simp <;> (try with_reducible rfl)⟩
  simp only [Act.put, List.setIfInBounds_toArray, List.set_cons_zero, List.set_cons_succ]
  refine' wpAnyH_take (i := 7) ?hi7_1 ?hs7_1 ?hf7_1 ?hr7_1 ?hQ7_1 ?hy7_1 (by assumption) ?rest7_1
  case hi7_1 => simp only [List.getElem?_toArray, List.getElem?_cons_succ, List.getElem?_cons_zero] <;> rfl
  case hs7_1 => kernel_rfl
  case hf7_1 => kernel_rfl
  case hr7_1 => kernel_rfl
  case hQ7_1 => exact fun _ _ _ h => h
  case hy7_1 => exact Or.inl ⟨by rfl, fun w hSw => by have q0 := cell_keep l2 hSw; have q1 := cell_keep l3 hSw; have q4 := cell_keep l4 hSw; have q8 := cell_keep l8 hSw; have r0 := cell_keep t0 hSw; have r1 := cell_keep t1 hSw; have r2 := cell_keep t2 hSw; have r3 := cell_keep t3 hSw; have s1 := cell_keep p1 hSw; have s2 := cell_keep p2 hSw; go_simp <;> (try with_reducible rfl)⟩
  simp only [Act.put, List.setIfInBounds_toArray, List.set_cons_zero, List.set_cons_succ]
  refine' wpAnyH_take (i := 8) ?hi8_1 ?hs8_1 ?hf8_1 ?hr8_1 ?hQ8_1 ?hy8_1 (by assumption) ?rest8_1
  case hi8_1 => simp only [List.getElem?_toArray, List.getElem?_cons_succ, List.getElem?_cons_zero] <;> rfl
  case hs8_1 => kernel_rfl
  case hf8_1 => kernel_rfl
  case hr8_1 => kernel_rfl
  case hQ8_1 => exact fun _ _ _ h => h
  case hy8_1 => exact Or.inl ⟨by rfl, fun w hSw => by have q0 := cell_keep l2 hSw; have q1 := cell_keep l3 hSw; have q4 := cell_keep l4 hSw; have q8 := cell_keep l8 hSw; have r0 := cell_keep t0 hSw; have r1 := cell_keep t1 hSw; have r2 := cell_keep t2 hSw; have r3 := cell_keep t3 hSw; have s1 := cell_keep p1 hSw; have s2 := cell_keep p2 hSw; go_simp <;> (try with_reducible rfl)⟩
  simp only [Act.put, List.setIfInBounds_toArray, List.set_cons_zero, List.set_cons_succ]
  refine wpAnyH_done (by kernel_rfl) ?_ _
  refine NoPanic.normal ?_
  go_wp2_with fail
  refine wp_region_noPanic ?_
  refine wp_region_held_drew (S := (fun w' => Keeps w1 w')) (by kernel_rfl) (Touch.refl _ w1).drew.drew (fun hHeld => ?_)
  refine' wpAnyH_take (i := 0) ?hi0_2 ?hs0_2 ?hf0_2 ?hr0_2 ?hQ0_2 ?hy0_2 (by assumption) ?rest0_2
  case hi0_2 => simp only [List.getElem?_toArray, List.getElem?_cons_zero] <;> rfl
  case hs0_2 => kernel_rfl
  case hf0_2 => kernel_rfl
  case hr0_2 => kernel_rfl
  case hQ0_2 => exact fun _ _ _ h => h
  case hy0_2 => exact Or.inl ⟨by rfl, fun w hSw => by have q0 := cell_keep l2 hSw; have q1 := cell_keep l3 hSw; have q4 := cell_keep l4 hSw; have q8 := cell_keep l8 hSw; have r0 := cell_keep t0 hSw; have r1 := cell_keep t1 hSw; have r2 := cell_keep t2 hSw; have r3 := cell_keep t3 hSw; have s1 := cell_keep p1 hSw; have s2 := cell_keep p2 hSw; go_simp <;> (try with_reducible rfl)⟩
  simp only [Act.put, List.setIfInBounds_toArray, List.set_cons_zero, List.set_cons_succ]
  refine' wpAnyH_take (i := 1) ?hi1_2 ?hs1_2 ?hf1_2 ?hr1_2 ?hQ1_2 ?hy1_2 (by assumption) ?rest1_2
  case hi1_2 => simp only [List.getElem?_toArray, List.getElem?_cons_succ, List.getElem?_cons_zero] <;> rfl
  case hs1_2 => kernel_rfl
  case hf1_2 => kernel_rfl
  case hr1_2 => kernel_rfl
  case hQ1_2 => exact fun _ _ _ h => h
  case hy1_2 => exact Or.inl ⟨by rfl, fun w hSw => by have q0 := cell_keep l2 hSw; have q1 := cell_keep l3 hSw; have q4 := cell_keep l4 hSw; have q8 := cell_keep l8 hSw; have r0 := cell_keep t0 hSw; have r1 := cell_keep t1 hSw; have r2 := cell_keep t2 hSw; have r3 := cell_keep t3 hSw; have s1 := cell_keep p1 hSw; have s2 := cell_keep p2 hSw; go_simp <;> (try with_reducible rfl)⟩
  simp only [Act.put, List.setIfInBounds_toArray, List.set_cons_zero, List.set_cons_succ]
  refine' wpAnyH_take (i := 2) ?hi2_2 ?hs2_2 ?hf2_2 ?hr2_2 ?hQ2_2 ?hy2_2 (by assumption) ?rest2_2
  case hi2_2 => simp only [List.getElem?_toArray, List.getElem?_cons_succ, List.getElem?_cons_zero] <;> rfl
  case hs2_2 => kernel_rfl
  case hf2_2 => kernel_rfl
  case hr2_2 => kernel_rfl
  case hQ2_2 => exact fun _ _ _ h => h
  case hy2_2 => exact Or.inl ⟨by rfl, fun w hSw => by have q0 := cell_keep l2 hSw; have q1 := cell_keep l3 hSw; have q4 := cell_keep l4 hSw; have q8 := cell_keep l8 hSw; have r0 := cell_keep t0 hSw; have r1 := cell_keep t1 hSw; have r2 := cell_keep t2 hSw; have r3 := cell_keep t3 hSw; have s1 := cell_keep p1 hSw; have s2 := cell_keep p2 hSw; go_simp <;> (try with_reducible rfl)⟩
  simp only [Act.put, List.setIfInBounds_toArray, List.set_cons_zero, List.set_cons_succ]
  refine' wpAnyH_take (i := 3) ?hi3_2 ?hs3_2 ?hf3_2 ?hr3_2 ?hQ3_2 ?hy3_2 (by assumption) ?rest3_2
  case hi3_2 => simp only [List.getElem?_toArray, List.getElem?_cons_succ, List.getElem?_cons_zero] <;> rfl
  case hs3_2 => kernel_rfl
  case hf3_2 => kernel_rfl
  case hr3_2 => kernel_rfl
  case hQ3_2 => exact fun _ _ _ h => h
  case hy3_2 => exact Or.inl ⟨by rfl, fun w hSw => by have q0 := cell_keep l2 hSw; have q1 := cell_keep l3 hSw; have q4 := cell_keep l4 hSw; have q8 := cell_keep l8 hSw; have r0 := cell_keep t0 hSw; have r1 := cell_keep t1 hSw; have r2 := cell_keep t2 hSw; have r3 := cell_keep t3 hSw; have s1 := cell_keep p1 hSw; have s2 := cell_keep p2 hSw; go_simp <;> (try with_reducible rfl)⟩
  simp only [Act.put, List.setIfInBounds_toArray, List.set_cons_zero, List.set_cons_succ]
  refine' wpAnyH_take (i := 4) ?hi4_2 ?hs4_2 ?hf4_2 ?hr4_2 ?hQ4_2 ?hy4_2 (by assumption) ?rest4_2
  case hi4_2 => simp only [List.getElem?_toArray, List.getElem?_cons_succ, List.getElem?_cons_zero] <;> rfl
  case hs4_2 => kernel_rfl
  case hf4_2 => kernel_rfl
  case hr4_2 => kernel_rfl
  case hQ4_2 => exact fun _ _ _ h => h
  case hy4_2 => exact Or.inl ⟨by rfl, fun w hSw => by have q0 := cell_keep l2 hSw; have q1 := cell_keep l3 hSw; have q4 := cell_keep l4 hSw; have q8 := cell_keep l8 hSw; have r0 := cell_keep t0 hSw; have r1 := cell_keep t1 hSw; have r2 := cell_keep t2 hSw; have r3 := cell_keep t3 hSw; have s1 := cell_keep p1 hSw; have s2 := cell_keep p2 hSw; go_simp <;> (try with_reducible rfl)⟩
  simp only [Act.put, List.setIfInBounds_toArray, List.set_cons_zero, List.set_cons_succ]
  refine' wpAnyH_take (i := 5) ?hi5_2 ?hs5_2 ?hf5_2 ?hr5_2 ?hQ5_2 ?hy5_2 (by assumption) ?rest5_2
  case hi5_2 => simp only [List.getElem?_toArray, List.getElem?_cons_succ, List.getElem?_cons_zero] <;> rfl
  case hs5_2 => kernel_rfl
  case hf5_2 => kernel_rfl
  case hr5_2 => kernel_rfl
  case hQ5_2 => exact fun _ _ _ h => h
  case hy5_2 => exact Or.inl ⟨by rfl, fun w hSw => by have q0 := cell_keep l2 hSw; have q1 := cell_keep l3 hSw; have q4 := cell_keep l4 hSw; have q8 := cell_keep l8 hSw; have r0 := cell_keep t0 hSw; have r1 := cell_keep t1 hSw; have r2 := cell_keep t2 hSw; have r3 := cell_keep t3 hSw; have s1 := cell_keep p1 hSw; have s2 := cell_keep p2 hSw; go_simp <;> (try with_reducible rfl)⟩
  simp only [Act.put, List.setIfInBounds_toArray, List.set_cons_zero, List.set_cons_succ]
  refine' wpAnyH_take (i := 6) ?hi6_2 ?hs6_2 ?hf6_2 ?hr6_2 ?hQ6_2 ?hy6_2 (by assumption) ?rest6_2
  case hi6_2 => simp only [List.getElem?_toArray, List.getElem?_cons_succ, List.getElem?_cons_zero] <;> rfl
  case hs6_2 => kernel_rfl
  case hf6_2 => kernel_rfl
  case hr6_2 => kernel_rfl
  case hQ6_2 => exact fun _ _ _ h => h
  case hy6_2 => exact Or.inl ⟨by rfl, fun w hSw => by have q0 := cell_keep l2 hSw; have q1 := cell_keep l3 hSw; have q4 := cell_keep l4 hSw; have q8 := cell_keep l8 hSw; have r0 := cell_keep t0 hSw; have r1 := cell_keep t1 hSw; have r2 := cell_keep t2 hSw; have r3 := cell_keep t3 hSw; have s1 := cell_keep p1 hSw; have s2 := cell_keep p2 hSw; go_simp <;> (try with_reducible rfl)⟩
  simp only [Act.put, List.setIfInBounds_toArray, List.set_cons_zero, List.set_cons_succ]
  refine' wpAnyH_take (i := 7) ?hi7_2 ?hs7_2 ?hf7_2 ?hr7_2 ?hQ7_2 ?hy7_2 (by assumption) ?rest7_2
  case hi7_2 => simp only [List.getElem?_toArray, List.getElem?_cons_succ, List.getElem?_cons_zero] <;> rfl
  case hs7_2 => kernel_rfl
  case hf7_2 => kernel_rfl
  case hr7_2 => kernel_rfl
  case hQ7_2 => exact fun _ _ _ h => h
  case hy7_2 => exact Or.inl ⟨by rfl, fun w hSw => by have q0 := cell_keep l2 hSw; have q1 := cell_keep l3 hSw; have q4 := cell_keep l4 hSw; have q8 := cell_keep l8 hSw; have r0 := cell_keep t0 hSw; have r1 := cell_keep t1 hSw; have r2 := cell_keep t2 hSw; have r3 := cell_keep t3 hSw; have s1 := cell_keep p1 hSw; have s2 := cell_keep p2 hSw; go_simp <;> (try with_reducible rfl)⟩
  simp only [Act.put, List.setIfInBounds_toArray, List.set_cons_zero, List.set_cons_succ]
  refine' wpAnyH_take (i := 8) ?hi8_2 ?hs8_2 ?hf8_2 ?hr8_2 ?hQ8_2 ?hy8_2 (by assumption) ?rest8_2
  case hi8_2 => simp only [List.getElem?_toArray, List.getElem?_cons_succ, List.getElem?_cons_zero] <;> rfl
  case hs8_2 => kernel_rfl
  case hf8_2 => kernel_rfl
  case hr8_2 => kernel_rfl
  case hQ8_2 => exact fun _ _ _ h => h
  case hy8_2 => exact Or.inl ⟨by rfl, fun w hSw => by have q0 := cell_keep l2 hSw; have q1 := cell_keep l3 hSw; have q4 := cell_keep l4 hSw; have q8 := cell_keep l8 hSw; have r0 := cell_keep t0 hSw; have r1 := cell_keep t1 hSw; have r2 := cell_keep t2 hSw; have r3 := cell_keep t3 hSw; have s1 := cell_keep p1 hSw; have s2 := cell_keep p2 hSw; go_simp <;> (try with_reducible rfl)⟩
  simp only [Act.put, List.setIfInBounds_toArray, List.set_cons_zero, List.set_cons_succ]
  refine' wpAnyH_take (i := 9) ?hi9_2 ?hs9_2 ?hf9_2 ?hr9_2 ?hQ9_2 ?hy9_2 (by assumption) ?rest9_2
  case hi9_2 => simp only [List.getElem?_toArray, List.getElem?_cons_succ, List.getElem?_cons_zero] <;> rfl
  case hs9_2 => kernel_rfl
  case hf9_2 => kernel_rfl
  case hr9_2 => kernel_rfl
  case hQ9_2 => exact fun _ _ _ h => h
  case hy9_2 => exact Or.inl ⟨by rfl, fun w hSw => by have q0 := cell_keep l2 hSw; have q1 := cell_keep l3 hSw; have q4 := cell_keep l4 hSw; have q8 := cell_keep l8 hSw; have r0 := cell_keep t0 hSw; have r1 := cell_keep t1 hSw; have r2 := cell_keep t2 hSw; have r3 := cell_keep t3 hSw; have s1 := cell_keep p1 hSw; have s2 := cell_keep p2 hSw; go_simp <;> (try with_reducible rfl)⟩
  simp only [Act.put, List.setIfInBounds_toArray, List.set_cons_zero, List.set_cons_succ]
  refine' wpAnyH_take (i := 10) ?hi10_2 ?hs10_2 ?hf10_2 ?hr10_2 ?hQ10_2 ?hy10_2 (by assumption) ?rest10_2
  case hi10_2 => simp only [List.getElem?_toArray, List.getElem?_cons_succ, List.getElem?_cons_zero] <;> rfl
  case hs10_2 => kernel_rfl
  case hf10_2 => kernel_rfl
  case hr10_2 => kernel_rfl
  case hQ10_2 => exact fun _ _ _ h => h
  case hy10_2 => exact Or.inl ⟨by rfl, fun w hSw => by have q0 := cell_keep l2 hSw; have q1 := cell_keep l3 hSw; have q4 := cell_keep l4 hSw; have q8 := cell_keep l8 hSw; have r0 := cell_keep t0 hSw; have r1 := cell_keep t1 hSw; have r2 := cell_keep t2 hSw; have r3 := cell_keep t3 hSw; have s1 := cell_keep p1 hSw; have s2 := cell_keep p2 hSw; go_simp <;> (try with_reducible rfl)⟩
  simp only [Act.put, List.setIfInBounds_toArray, List.set_cons_zero, List.set_cons_succ]
  refine wpAnyH_done (by kernel_rfl) ?_ _
  refine NoPanic.normal ?_
  by_cases hcz : c = 0
  · subst hcz
    obtain ⟨x9, hx9⟩ : ∃ x9 : Nat, da % 9 = x9 := ⟨(da % 9).toNat, by omega⟩
    have hx9t : da.tmod 9 = x9 := by rw [Int.tmod_eq_emod_of_nonneg hd0]; exact hx9
    obtain ⟨z, hz⟩ : ∃ z : Int, z = x9 + 1 := ⟨_, rfl⟩
    have gz : IntKind.i64.wrap ((x9 : Int) + 1) = z := by rw [IntWalk.i64_in _ ⟨by omega, by omega⟩, hz]
    have hz1 : 1 ≤ z := by omega
    have hz9 : z ≤ 9 := by omega
    clear hz
    go_wp2_with fail
    by_cases hroom : z ≤ te - tt
    · have gadd : IntKind.i64.wrap (tt + z) = tt + z := IntWalk.i64_in _ ⟨by omega, by omega⟩
      have hTh : thB n tt z = true := thB_true.2 ⟨by omega, by omega, by omega, by omega⟩
      refine wp_region_noPanic ?_
      refine wp_region_held_drew (S := (fun w' => Only bw w1 w')) (by kernel_rfl) (Only.refl _ w1).drew.drew.drew (fun hHeld => ?_)
      refine' wpAnyH_take (i := 0) ?hi0_3 ?hs0_3 ?hf0_3 ?hr0_3 ?hQ0_3 ?hy0_3 (by assumption) ?rest0_3
      case hi0_3 => simp only [List.getElem?_toArray, List.getElem?_cons_zero] <;> rfl
      case hs0_3 => kernel_rfl
      case hf0_3 => kernel_rfl
      case hr0_3 => kernel_rfl
      case hQ0_3 => exact fun _ _ _ h => h
      case hy0_3 => exact Or.inl ⟨by rfl, fun w hSw => by have q0 := cell_only l2 hSw n1; have q1 := cell_only l3 hSw n1; have q4 := cell_only l4 hSw n1; have q8 := cell_only l8 hSw n1; have r0 := cell_only t0 hSw nT; have r1 := cell_only t1 hSw nT; have r2 := cell_only t2 hSw nT; have r3 := cell_only t3 hSw nT; have s1 := cell_only p1 hSw n2; have s2 := cell_only p2 hSw n2; go_simp <;> (try with_reducible rfl)⟩
      simp only [Act.put, List.setIfInBounds_toArray, List.set_cons_zero, List.set_cons_succ]
      refine' wpAnyH_take (i := 1) ?hi1_3 ?hs1_3 ?hf1_3 ?hr1_3 ?hQ1_3 ?hy1_3 (by assumption) ?rest1_3
      case hi1_3 => simp only [List.getElem?_toArray, List.getElem?_cons_succ, List.getElem?_cons_zero] <;> rfl
      case hs1_3 => kernel_rfl
      case hf1_3 => kernel_rfl
      case hr1_3 => kernel_rfl
      case hQ1_3 => exact fun _ _ _ h => h
      case hy1_3 => exact Or.inl ⟨by rfl, fun w hSw => by have q0 := cell_only l2 hSw n1; have q1 := cell_only l3 hSw n1; have q4 := cell_only l4 hSw n1; have q8 := cell_only l8 hSw n1; have r0 := cell_only t0 hSw nT; have r1 := cell_only t1 hSw nT; have r2 := cell_only t2 hSw nT; have r3 := cell_only t3 hSw nT; have s1 := cell_only p1 hSw n2; have s2 := cell_only p2 hSw n2; go_simp <;> (try with_reducible rfl)⟩
      simp only [Act.put, List.setIfInBounds_toArray, List.set_cons_zero, List.set_cons_succ]
      refine' wpAnyH_take (i := 2) ?hi2_3 ?hs2_3 ?hf2_3 ?hr2_3 ?hQ2_3 ?hy2_3 (by assumption) ?rest2_3
      case hi2_3 => simp only [List.getElem?_toArray, List.getElem?_cons_succ, List.getElem?_cons_zero] <;> rfl
      case hs2_3 => kernel_rfl
      case hf2_3 => kernel_rfl
      case hr2_3 => kernel_rfl
      case hQ2_3 => exact fun _ _ _ h => h
      case hy2_3 => exact Or.inl ⟨by rfl, fun w hSw => by have q0 := cell_only l2 hSw n1; have q1 := cell_only l3 hSw n1; have q4 := cell_only l4 hSw n1; have q8 := cell_only l8 hSw n1; have r0 := cell_only t0 hSw nT; have r1 := cell_only t1 hSw nT; have r2 := cell_only t2 hSw nT; have r3 := cell_only t3 hSw nT; have s1 := cell_only p1 hSw n2; have s2 := cell_only p2 hSw n2; go_simp <;> (try with_reducible rfl)⟩
      simp only [Act.put, List.setIfInBounds_toArray, List.set_cons_zero, List.set_cons_succ]
      refine' wpAnyH_take (i := 3) ?hi3_3 ?hs3_3 ?hf3_3 ?hr3_3 ?hQ3_3 ?hy3_3 (by assumption) ?rest3_3
      case hi3_3 => simp only [List.getElem?_toArray, List.getElem?_cons_succ, List.getElem?_cons_zero] <;> rfl
      case hs3_3 => kernel_rfl
      case hf3_3 => kernel_rfl
      case hr3_3 => kernel_rfl
      case hQ3_3 => exact fun _ _ _ h => h
      case hy3_3 => exact Or.inl ⟨by rfl, fun w hSw => by have q0 := cell_only l2 hSw n1; have q1 := cell_only l3 hSw n1; have q4 := cell_only l4 hSw n1; have q8 := cell_only l8 hSw n1; have r0 := cell_only t0 hSw nT; have r1 := cell_only t1 hSw nT; have r2 := cell_only t2 hSw nT; have r3 := cell_only t3 hSw nT; have s1 := cell_only p1 hSw n2; have s2 := cell_only p2 hSw n2; go_simp <;> (try with_reducible rfl)⟩
      simp only [Act.put, List.setIfInBounds_toArray, List.set_cons_zero, List.set_cons_succ]
      refine' wpAnyH_take (i := 4) ?hi4_3 ?hs4_3 ?hf4_3 ?hr4_3 ?hQ4_3 ?hy4_3 (by assumption) ?rest4_3
      case hi4_3 => simp only [List.getElem?_toArray, List.getElem?_cons_succ, List.getElem?_cons_zero] <;> rfl
      case hs4_3 => kernel_rfl
      case hf4_3 => kernel_rfl
      case hr4_3 => kernel_rfl
      case hQ4_3 => exact fun _ _ _ h => h
      case hy4_3 => exact Or.inl ⟨by rfl, fun w hSw => by have q0 := cell_only l2 hSw n1; have q1 := cell_only l3 hSw n1; have q4 := cell_only l4 hSw n1; have q8 := cell_only l8 hSw n1; have r0 := cell_only t0 hSw nT; have r1 := cell_only t1 hSw nT; have r2 := cell_only t2 hSw nT; have r3 := cell_only t3 hSw nT; have s1 := cell_only p1 hSw n2; have s2 := cell_only p2 hSw n2; go_simp <;> (try with_reducible rfl)⟩
      simp only [Act.put, List.setIfInBounds_toArray, List.set_cons_zero, List.set_cons_succ]
      refine' wpAnyH_take (i := 5) ?hi5_3 ?hs5_3 ?hf5_3 ?hr5_3 ?hQ5_3 ?hy5_3 (by assumption) ?rest5_3
      case hi5_3 => simp only [List.getElem?_toArray, List.getElem?_cons_succ, List.getElem?_cons_zero] <;> rfl
      case hs5_3 => kernel_rfl
      case hf5_3 => kernel_rfl
      case hr5_3 => kernel_rfl
      case hQ5_3 => exact fun _ _ _ h => h
      case hy5_3 => exact Or.inl ⟨by rfl, fun w hSw => by have q0 := cell_only l2 hSw n1; have q1 := cell_only l3 hSw n1; have q4 := cell_only l4 hSw n1; have q8 := cell_only l8 hSw n1; have r0 := cell_only t0 hSw nT; have r1 := cell_only t1 hSw nT; have r2 := cell_only t2 hSw nT; have r3 := cell_only t3 hSw nT; have s1 := cell_only p1 hSw n2; have s2 := cell_only p2 hSw n2; go_simp <;> (try with_reducible rfl)⟩
      simp only [Act.put, List.setIfInBounds_toArray, List.set_cons_zero, List.set_cons_succ]
      refine' wpAnyH_take (i := 6) ?hi6_3 ?hs6_3 ?hf6_3 ?hr6_3 ?hQ6_3 ?hy6_3 (by assumption) ?rest6_3
      case hi6_3 => simp only [List.getElem?_toArray, List.getElem?_cons_succ, List.getElem?_cons_zero] <;> rfl
      case hs6_3 => kernel_rfl
      case hf6_3 => kernel_rfl
      case hr6_3 => kernel_rfl
      case hQ6_3 => exact fun _ _ _ h => h
      case hy6_3 => exact Or.inl ⟨by rfl, fun w hSw => by have q0 := cell_only l2 hSw n1; have q1 := cell_only l3 hSw n1; have q4 := cell_only l4 hSw n1; have q8 := cell_only l8 hSw n1; have r0 := cell_only t0 hSw nT; have r1 := cell_only t1 hSw nT; have r2 := cell_only t2 hSw nT; have r3 := cell_only t3 hSw nT; have s1 := cell_only p1 hSw n2; have s2 := cell_only p2 hSw n2; go_simp <;> (try with_reducible rfl)⟩
      simp only [Act.put, List.setIfInBounds_toArray, List.set_cons_zero, List.set_cons_succ]
      refine' wpAnyH_take (i := 7) ?hi7_3 ?hs7_3 ?hf7_3 ?hr7_3 ?hQ7_3 ?hy7_3 (by assumption) ?rest7_3
      case hi7_3 => simp only [List.getElem?_toArray, List.getElem?_cons_succ, List.getElem?_cons_zero] <;> rfl
      case hs7_3 => kernel_rfl
      case hf7_3 => kernel_rfl
      case hr7_3 => kernel_rfl
      case hQ7_3 => exact fun _ _ _ h => h
      case hy7_3 => exact Or.inl ⟨by rfl, fun w hSw => by have q0 := cell_only l2 hSw n1; have q1 := cell_only l3 hSw n1; have q4 := cell_only l4 hSw n1; have q8 := cell_only l8 hSw n1; have r0 := cell_only t0 hSw nT; have r1 := cell_only t1 hSw nT; have r2 := cell_only t2 hSw nT; have r3 := cell_only t3 hSw nT; have s1 := cell_only p1 hSw n2; have s2 := cell_only p2 hSw n2; go_simp <;> (try with_reducible rfl)⟩
      simp only [Act.put, List.setIfInBounds_toArray, List.set_cons_zero, List.set_cons_succ]
      refine' wpAnyH_take (i := 8) ?hi8_3 ?hs8_3 ?hf8_3 ?hr8_3 ?hQ8_3 ?hy8_3 (by assumption) ?rest8_3
      case hi8_3 => simp only [List.getElem?_toArray, List.getElem?_cons_succ, List.getElem?_cons_zero] <;> rfl
      case hs8_3 => kernel_rfl
      case hf8_3 => kernel_rfl
      case hr8_3 => kernel_rfl
      case hQ8_3 => exact fun _ _ _ h => h
      case hy8_3 => exact Or.inl ⟨by rfl, fun w hSw => by have q0 := cell_only l2 hSw n1; have q1 := cell_only l3 hSw n1; have q4 := cell_only l4 hSw n1; have q8 := cell_only l8 hSw n1; have r0 := cell_only t0 hSw nT; have r1 := cell_only t1 hSw nT; have r2 := cell_only t2 hSw nT; have r3 := cell_only t3 hSw nT; have s1 := cell_only p1 hSw n2; have s2 := cell_only p2 hSw n2; go_simp <;> (try with_reducible rfl)⟩
      simp only [Act.put, List.setIfInBounds_toArray, List.set_cons_zero, List.set_cons_succ]
      refine' wpAnyH_take (i := 9) ?hi9_3 ?hs9_3 ?hf9_3 ?hr9_3 ?hQ9_3 ?hy9_3 (by assumption) ?rest9_3
      case hi9_3 => simp only [List.getElem?_toArray, List.getElem?_cons_succ, List.getElem?_cons_zero] <;> rfl
      case hs9_3 => kernel_rfl
      case hf9_3 => kernel_rfl
      case hr9_3 => kernel_rfl
      case hQ9_3 => exact fun _ _ _ h => h
      case hy9_3 => exact Or.inl ⟨by rfl, fun w hSw => by have q0 := cell_only l2 hSw n1; have q1 := cell_only l3 hSw n1; have q4 := cell_only l4 hSw n1; have q8 := cell_only l8 hSw n1; have r0 := cell_only t0 hSw nT; have r1 := cell_only t1 hSw nT; have r2 := cell_only t2 hSw nT; have r3 := cell_only t3 hSw nT; have s1 := cell_only p1 hSw n2; have s2 := cell_only p2 hSw n2; go_simp <;> (try with_reducible rfl)⟩
      simp only [Act.put, List.setIfInBounds_toArray, List.set_cons_zero, List.set_cons_succ]
      refine' wpAnyH_take (i := 10) ?hi10_3 ?hs10_3 ?hf10_3 ?hr10_3 ?hQ10_3 ?hy10_3 (by assumption) ?rest10_3
      case hi10_3 => simp only [List.getElem?_toArray, List.getElem?_cons_succ, List.getElem?_cons_zero] <;> rfl
      case hs10_3 => kernel_rfl
      case hf10_3 => kernel_rfl
      case hr10_3 => kernel_rfl
      case hQ10_3 => exact fun _ _ _ h => h
      case hy10_3 => exact Or.inl ⟨by rfl, fun w hSw => by have q0 := cell_only l2 hSw n1; have q1 := cell_only l3 hSw n1; have q4 := cell_only l4 hSw n1; have q8 := cell_only l8 hSw n1; have r0 := cell_only t0 hSw nT; have r1 := cell_only t1 hSw nT; have r2 := cell_only t2 hSw nT; have r3 := cell_only t3 hSw nT; have s1 := cell_only p1 hSw n2; have s2 := cell_only p2 hSw n2; go_simp <;> (try with_reducible rfl)⟩
      simp only [Act.put, List.setIfInBounds_toArray, List.set_cons_zero, List.set_cons_succ]
      refine' wpAnyH_take (i := 11) ?hi11_3 ?hs11_3 ?hf11_3 ?hr11_3 ?hQ11_3 ?hy11_3 (by assumption) ?rest11_3
      case hi11_3 => simp only [List.getElem?_toArray, List.getElem?_cons_succ, List.getElem?_cons_zero] <;> rfl
      case hs11_3 => kernel_rfl
      case hf11_3 => kernel_rfl
      case hr11_3 => kernel_rfl
      case hQ11_3 => exact fun _ _ _ h => h
      case hy11_3 => exact Or.inl ⟨by rfl, fun w hSw => by have q0 := cell_only l2 hSw n1; have q1 := cell_only l3 hSw n1; have q4 := cell_only l4 hSw n1; have q8 := cell_only l8 hSw n1; have r0 := cell_only t0 hSw nT; have r1 := cell_only t1 hSw nT; have r2 := cell_only t2 hSw nT; have r3 := cell_only t3 hSw nT; have s1 := cell_only p1 hSw n2; have s2 := cell_only p2 hSw n2; go_simp <;> (try with_reducible rfl)⟩
      simp only [Act.put, List.setIfInBounds_toArray, List.set_cons_zero, List.set_cons_succ]
      refine' wpAnyH_take (i := 12) ?hi12_3 ?hs12_3 ?hf12_3 ?hr12_3 ?hQ12_3 ?hy12_3 (by assumption) ?rest12_3
      case hi12_3 => simp only [List.getElem?_toArray, List.getElem?_cons_succ, List.getElem?_cons_zero] <;> rfl
      case hs12_3 => kernel_rfl
      case hf12_3 => kernel_rfl
      case hr12_3 => kernel_rfl
      case hQ12_3 => exact fun _ _ _ h => h
      case hy12_3 => exact Or.inl ⟨by rfl, fun w hSw => by have q0 := cell_only l2 hSw n1; have q1 := cell_only l3 hSw n1; have q4 := cell_only l4 hSw n1; have q8 := cell_only l8 hSw n1; have r0 := cell_only t0 hSw nT; have r1 := cell_only t1 hSw nT; have r2 := cell_only t2 hSw nT; have r3 := cell_only t3 hSw nT; have s1 := cell_only p1 hSw n2; have s2 := cell_only p2 hSw n2; go_simp <;> (try with_reducible rfl)⟩
      simp only [Act.put, List.setIfInBounds_toArray, List.set_cons_zero, List.set_cons_succ]
      refine' wpAnyH_take (i := 13) ?hi13_3 ?hs13_3 ?hf13_3 ?hr13_3 ?hQ13_3 ?hy13_3 (by assumption) ?rest13_3
      case hi13_3 => simp only [List.getElem?_toArray, List.getElem?_cons_succ, List.getElem?_cons_zero] <;> rfl
      case hs13_3 => kernel_rfl
      case hf13_3 => kernel_rfl
      case hr13_3 => kernel_rfl
      case hQ13_3 => exact fun _ _ _ h => h
      case hy13_3 => exact Or.inl ⟨by rfl, fun w hSw => by have q0 := cell_only l2 hSw n1; have q1 := cell_only l3 hSw n1; have q4 := cell_only l4 hSw n1; have q8 := cell_only l8 hSw n1; have r0 := cell_only t0 hSw nT; have r1 := cell_only t1 hSw nT; have r2 := cell_only t2 hSw nT; have r3 := cell_only t3 hSw nT; have s1 := cell_only p1 hSw n2; have s2 := cell_only p2 hSw n2; go_simp <;> (try with_reducible rfl)⟩
      simp only [Act.put, List.setIfInBounds_toArray, List.set_cons_zero, List.set_cons_succ]
      refine' wpAnyH_take (i := 14) ?hi14_3 ?hs14_3 ?hf14_3 ?hr14_3 ?hQ14_3 ?hy14_3 (by assumption) ?rest14_3
      case hi14_3 => simp only [List.getElem?_toArray, List.getElem?_cons_succ, List.getElem?_cons_zero] <;> rfl
      case hs14_3 => kernel_rfl
      case hf14_3 => kernel_rfl
      case hr14_3 => kernel_rfl
      case hQ14_3 => exact fun _ _ _ h => h
      case hy14_3 => exact Or.inl ⟨by rfl, fun w hSw => by have q0 := cell_only l2 hSw n1; have q1 := cell_only l3 hSw n1; have q4 := cell_only l4 hSw n1; have q8 := cell_only l8 hSw n1; have r0 := cell_only t0 hSw nT; have r1 := cell_only t1 hSw nT; have r2 := cell_only t2 hSw nT; have r3 := cell_only t3 hSw nT; have s1 := cell_only p1 hSw n2; have s2 := cell_only p2 hSw n2; go_simp <;> (try with_reducible rfl)⟩
      simp only [Act.put, List.setIfInBounds_toArray, List.set_cons_zero, List.set_cons_succ]
      refine' wpAnyH_take (i := 15) ?hi15_3 ?hs15_3 ?hf15_3 ?hr15_3 ?hQ15_3 ?hy15_3 (by assumption) ?rest15_3
      case hi15_3 => simp only [List.getElem?_toArray, List.getElem?_cons_succ, List.getElem?_cons_zero] <;> rfl
      case hs15_3 => kernel_rfl
      case hf15_3 => kernel_rfl
      case hr15_3 => kernel_rfl
      case hQ15_3 => exact fun _ _ _ h => h
      case hy15_3 => exact Or.inl ⟨by rfl, fun w hSw => by have q0 := cell_only l2 hSw n1; have q1 := cell_only l3 hSw n1; have q4 := cell_only l4 hSw n1; have q8 := cell_only l8 hSw n1; have r0 := cell_only t0 hSw nT; have r1 := cell_only t1 hSw nT; have r2 := cell_only t2 hSw nT; have r3 := cell_only t3 hSw nT; have s1 := cell_only p1 hSw n2; have s2 := cell_only p2 hSw n2; go_simp <;> (try with_reducible rfl)⟩
      simp only [Act.put, List.setIfInBounds_toArray, List.set_cons_zero, List.set_cons_succ]
      refine' wpAnyH_take (i := 16) ?hi16_3 ?hs16_3 ?hf16_3 ?hr16_3 ?hQ16_3 ?hy16_3 (by assumption) ?rest16_3
      case hi16_3 => simp only [List.getElem?_toArray, List.getElem?_cons_succ, List.getElem?_cons_zero] <;> rfl
      case hs16_3 => kernel_rfl
      case hf16_3 => kernel_rfl
      case hr16_3 => kernel_rfl
      case hQ16_3 => exact fun _ _ _ h => h
      case hy16_3 => exact Or.inl ⟨by rfl, fun w hSw => by have q0 := cell_only l2 hSw n1; have q1 := cell_only l3 hSw n1; have q4 := cell_only l4 hSw n1; have q8 := cell_only l8 hSw n1; have r0 := cell_only t0 hSw nT; have r1 := cell_only t1 hSw nT; have r2 := cell_only t2 hSw nT; have r3 := cell_only t3 hSw nT; have s1 := cell_only p1 hSw n2; have s2 := cell_only p2 hSw n2; go_simp <;> (try with_reducible rfl)⟩
      simp only [Act.put, List.setIfInBounds_toArray, List.set_cons_zero, List.set_cons_succ]
      refine' wpAnyH_take (i := 17) ?hi17_3 ?hs17_3 ?hf17_3 ?hr17_3 ?hQ17_3 ?hy17_3 (by assumption) ?rest17_3
      case hi17_3 => simp only [List.getElem?_toArray, List.getElem?_cons_succ, List.getElem?_cons_zero] <;> rfl
      case hs17_3 => kernel_rfl
      case hf17_3 => kernel_rfl
      case hr17_3 => kernel_rfl
      case hQ17_3 => exact fun _ _ _ h => h
      case hy17_3 => exact Or.inl ⟨by rfl, fun w hSw => by have q0 := cell_only l2 hSw n1; have q1 := cell_only l3 hSw n1; have q4 := cell_only l4 hSw n1; have q8 := cell_only l8 hSw n1; have r0 := cell_only t0 hSw nT; have r1 := cell_only t1 hSw nT; have r2 := cell_only t2 hSw nT; have r3 := cell_only t3 hSw nT; have s1 := cell_only p1 hSw n2; have s2 := cell_only p2 hSw n2; go_simp <;> (try with_reducible rfl)⟩
      simp only [Act.put, List.setIfInBounds_toArray, List.set_cons_zero, List.set_cons_succ]
      refine' wpAnyH_take (i := 18) ?hi18_3 ?hs18_3 ?hf18_3 ?hr18_3 ?hQ18_3 ?hy18_3 (by assumption) ?rest18_3
      case hi18_3 => simp only [List.getElem?_toArray, List.getElem?_cons_succ, List.getElem?_cons_zero] <;> rfl
      case hs18_3 => kernel_rfl
      case hf18_3 => kernel_rfl
      case hr18_3 => kernel_rfl
      case hQ18_3 => exact fun _ _ _ h => h
      case hy18_3 => exact Or.inl ⟨by rfl, fun w hSw => by have q0 := cell_only l2 hSw n1; have q1 := cell_only l3 hSw n1; have q4 := cell_only l4 hSw n1; have q8 := cell_only l8 hSw n1; have r0 := cell_only t0 hSw nT; have r1 := cell_only t1 hSw nT; have r2 := cell_only t2 hSw nT; have r3 := cell_only t3 hSw nT; have s1 := cell_only p1 hSw n2; have s2 := cell_only p2 hSw n2; go_simp <;> (try with_reducible rfl)⟩
      simp only [Act.put, List.setIfInBounds_toArray, List.set_cons_zero, List.set_cons_succ]
      refine' wpAnyH_take (i := 19) ?hi19_3 ?hs19_3 ?hf19_3 ?hr19_3 ?hQ19_3 ?hy19_3 (by assumption) ?rest19_3
      case hi19_3 => simp only [List.getElem?_toArray, List.getElem?_cons_succ, List.getElem?_cons_zero] <;> rfl
      case hs19_3 => kernel_rfl
      case hf19_3 => kernel_rfl
      case hr19_3 => kernel_rfl
      case hQ19_3 => exact fun _ _ _ h => h
      case hy19_3 => exact Or.inl ⟨by rfl, fun w hSw => by have q0 := cell_only l2 hSw n1; have q1 := cell_only l3 hSw n1; have q4 := cell_only l4 hSw n1; have q8 := cell_only l8 hSw n1; have r0 := cell_only t0 hSw nT; have r1 := cell_only t1 hSw nT; have r2 := cell_only t2 hSw nT; have r3 := cell_only t3 hSw nT; have s1 := cell_only p1 hSw n2; have s2 := cell_only p2 hSw n2; go_simp <;> (try with_reducible rfl)⟩
      simp only [Act.put, List.setIfInBounds_toArray, List.set_cons_zero, List.set_cons_succ]
      refine' wpAnyH_take (i := 20) ?hi20_3 ?hs20_3 ?hf20_3 ?hr20_3 ?hQ20_3 ?hy20_3 (by assumption) ?rest20_3
      case hi20_3 => simp only [List.getElem?_toArray, List.getElem?_cons_succ, List.getElem?_cons_zero] <;> rfl
      case hs20_3 => kernel_rfl
      case hf20_3 => kernel_rfl
      case hr20_3 => kernel_rfl
      case hQ20_3 => exact fun _ _ _ h => h
      case hy20_3 => exact Or.inl ⟨by rfl, fun w hSw => by have q0 := cell_only l2 hSw n1; have q1 := cell_only l3 hSw n1; have q4 := cell_only l4 hSw n1; have q8 := cell_only l8 hSw n1; have r0 := cell_only t0 hSw nT; have r1 := cell_only t1 hSw nT; have r2 := cell_only t2 hSw nT; have r3 := cell_only t3 hSw nT; have s1 := cell_only p1 hSw n2; have s2 := cell_only p2 hSw n2; go_simp <;> (try with_reducible rfl)⟩
      simp only [Act.put, List.setIfInBounds_toArray, List.set_cons_zero, List.set_cons_succ]
      refine wpAnyH_ready (rs := [21]) (by kernel_rfl) (by simp) ?_
      refine AllReadyH.cons rfl (fun K hK => ?_) AllReadyH.nil
      go_simp
      with_reducible refine Calls.mono (HG.out _ z (Touch.drew (Touch.drew (Touch.drew K1))) hTh) ?_
      rintro e w3 ⟨f3, rfl, hS3, hNew, hIs, hI64, o3⟩
      go_wp2_with fail
      refine hK.out _ _ (hHeld.trans_ o3) (fun hHeld => ?_)
      clear hK K
      refine' wpAnyH_take (i := 22) ?hi22_3 ?hs22_3 ?hf22_3 ?hr22_3 ?hQ22_3 ?hy22_3 (by assumption) ?rest22_3
      case hi22_3 => simp only [List.getElem?_toArray, List.getElem?_cons_succ, List.getElem?_cons_zero] <;> rfl
      case hs22_3 => kernel_rfl
      case hf22_3 => kernel_rfl
      case hr22_3 => kernel_rfl
      case hQ22_3 => exact fun _ _ _ h => h
      case hy22_3 => exact Or.inl ⟨by rfl, fun w hSw => by go_simp <;> (try with_reducible rfl)⟩
      simp only [Act.put, List.setIfInBounds_toArray, List.set_cons_zero, List.set_cons_succ]
      refine' wpAnyH_take (i := 23) ?hi23_3 ?hs23_3 ?hf23_3 ?hr23_3 ?hQ23_3 ?hy23_3 (by assumption) ?rest23_3
      case hi23_3 => simp only [List.getElem?_toArray, List.getElem?_cons_succ, List.getElem?_cons_zero] <;> rfl
      case hs23_3 => kernel_rfl
      case hf23_3 => kernel_rfl
      case hr23_3 => kernel_rfl
      case hQ23_3 => exact fun _ _ _ h => h
      case hy23_3 => exact Or.inl ⟨by rfl, fun w hSw => by go_simp <;> (try with_reducible rfl)⟩
      simp only [Act.put, List.setIfInBounds_toArray, List.set_cons_zero, List.set_cons_succ]
      refine wpAnyH_done (by kernel_rfl) ?_ _
      refine NoPanic.normal ?_
      have OT : Only bw w w3 := Touch.trans (Touch.only K1) hHeld (fun x hx _ => hx)
      have HN3 := Lib.hid (HN.out.at_touch OT n2 OT.size)
      obtain ⟨g9, he9, _, _, _, p9, _, _, f9, _⟩ := HN3.out.at_ hk3
      simp only [Option.some.injEq, Addr.mk.injEq, and_true] at he9
      subst he9
      rw [HTT.out] at p9
      have hS3' := Lib.hid hS3
      have HNw := Lib.hid hNew
      have HIx := Lib.hid hI64
      have HIs := Lib.hid hIs
      clear hS3 hNew hI64 hIs
      go_wp2_with fail
      go_ret
      have TW : Touch (fun kk => kk = xb ∨ kk = bw ∨ kk = gs ∨ av.ownBlock = some kk) w (w3.setCell ⟨gs, k * 3 + 1, none⟩ (.int .i64 (tt + z))) := Touch.setCell (OT.mono (fun x hx _ => .inr (.inl hx))) (fun _ => .inr (.inr (.inl rfl))) _
      have HU : setS L k { L k with t := tt + z } = upT L k z := by unfold upT; rw [HTT.out]
      refine ⟨false, f3, upT L k z, G, ats, av, rfl, ⟨hS3'.out.touch (Touch.set (Only.refl gs w3) _ _) (Ne.symm n6) (Ne.symm n2) (Ne.symm n7) (fun b off e => (n8 b off e).2.1), BL.other (HBh.out.touch OT n1) (by show xb ≠ gs; exact Ne.symm n3) _, ?_, ?_, HI.out.gap HSt.out.tb.ok hk3 HTT.out HNw.out hz1 (by rw [HTE.out]; omega) HIx.out HIs.out⟩, fun hh => (by cases hh), fun _ => rfl, fun j => ⟨(upT_f L k z j).1, (upT_f L k z j).2.1⟩, fun _ h => .inl h, fun hh => absurd hc hh, TW⟩
      · rw [← HU]; exact (HN3.out.set1 (tt + z)).at_touch (Touch.refl (fun _ => False) _) (fun h => h) (by simp)
      · exact (HAt.out.touch OT (fun kk e h => by have := (HAt.out.lt kk e).1; omega)).touch (Touch.set (Only.refl gs w3) _ _) (fun kk e h => by have := (HAt.out.lt kk e).1; omega)
    · have hroom' : te - tt < z := by omega
      refine wp_region_noPanic ?_
      refine wp_region_held_drew (S := (fun w' => Keeps w1 w')) (by kernel_rfl) (Touch.refl _ w1).drew.drew.drew (fun hHeld => ?_)
      refine' wpAnyH_take (i := 0) ?hi0_4 ?hs0_4 ?hf0_4 ?hr0_4 ?hQ0_4 ?hy0_4 (by assumption) ?rest0_4
      case hi0_4 => simp only [List.getElem?_toArray, List.getElem?_cons_zero] <;> rfl
      case hs0_4 => kernel_rfl
      case hf0_4 => kernel_rfl
      case hr0_4 => kernel_rfl
      case hQ0_4 => exact fun _ _ _ h => h
      case hy0_4 => exact Or.inl ⟨by rfl, fun w hSw => by have q0 := cell_keep l2 hSw; have q1 := cell_keep l3 hSw; have q4 := cell_keep l4 hSw; have q8 := cell_keep l8 hSw; have r0 := cell_keep t0 hSw; have r1 := cell_keep t1 hSw; have r2 := cell_keep t2 hSw; have r3 := cell_keep t3 hSw; have s1 := cell_keep p1 hSw; have s2 := cell_keep p2 hSw; go_simp <;> (try with_reducible rfl)⟩
      simp only [Act.put, List.setIfInBounds_toArray, List.set_cons_zero, List.set_cons_succ]
      refine' wpAnyH_take (i := 1) ?hi1_4 ?hs1_4 ?hf1_4 ?hr1_4 ?hQ1_4 ?hy1_4 (by assumption) ?rest1_4
      case hi1_4 => simp only [List.getElem?_toArray, List.getElem?_cons_succ, List.getElem?_cons_zero] <;> rfl
      case hs1_4 => kernel_rfl
      case hf1_4 => kernel_rfl
      case hr1_4 => kernel_rfl
      case hQ1_4 => exact fun _ _ _ h => h
      case hy1_4 => exact Or.inl ⟨by rfl, fun w hSw => by have q0 := cell_keep l2 hSw; have q1 := cell_keep l3 hSw; have q4 := cell_keep l4 hSw; have q8 := cell_keep l8 hSw; have r0 := cell_keep t0 hSw; have r1 := cell_keep t1 hSw; have r2 := cell_keep t2 hSw; have r3 := cell_keep t3 hSw; have s1 := cell_keep p1 hSw; have s2 := cell_keep p2 hSw; go_simp <;> (try with_reducible rfl)⟩
      simp only [Act.put, List.setIfInBounds_toArray, List.set_cons_zero, List.set_cons_succ]
      refine' wpAnyH_take (i := 2) ?hi2_4 ?hs2_4 ?hf2_4 ?hr2_4 ?hQ2_4 ?hy2_4 (by assumption) ?rest2_4
      case hi2_4 => simp only [List.getElem?_toArray, List.getElem?_cons_succ, List.getElem?_cons_zero] <;> rfl
      case hs2_4 => kernel_rfl
      case hf2_4 => kernel_rfl
      case hr2_4 => kernel_rfl
      case hQ2_4 => exact fun _ _ _ h => h
      case hy2_4 => exact Or.inl ⟨by rfl, fun w hSw => by have q0 := cell_keep l2 hSw; have q1 := cell_keep l3 hSw; have q4 := cell_keep l4 hSw; have q8 := cell_keep l8 hSw; have r0 := cell_keep t0 hSw; have r1 := cell_keep t1 hSw; have r2 := cell_keep t2 hSw; have r3 := cell_keep t3 hSw; have s1 := cell_keep p1 hSw; have s2 := cell_keep p2 hSw; go_simp <;> (try with_reducible rfl)⟩
      simp only [Act.put, List.setIfInBounds_toArray, List.set_cons_zero, List.set_cons_succ]
      refine' wpAnyH_take (i := 3) ?hi3_4 ?hs3_4 ?hf3_4 ?hr3_4 ?hQ3_4 ?hy3_4 (by assumption) ?rest3_4
      case hi3_4 => simp only [List.getElem?_toArray, List.getElem?_cons_succ, List.getElem?_cons_zero] <;> rfl
      case hs3_4 => kernel_rfl
      case hf3_4 => kernel_rfl
      case hr3_4 => kernel_rfl
      case hQ3_4 => exact fun _ _ _ h => h
      case hy3_4 => exact Or.inl ⟨by rfl, fun w hSw => by have q0 := cell_keep l2 hSw; have q1 := cell_keep l3 hSw; have q4 := cell_keep l4 hSw; have q8 := cell_keep l8 hSw; have r0 := cell_keep t0 hSw; have r1 := cell_keep t1 hSw; have r2 := cell_keep t2 hSw; have r3 := cell_keep t3 hSw; have s1 := cell_keep p1 hSw; have s2 := cell_keep p2 hSw; go_simp <;> (try with_reducible rfl)⟩
      simp only [Act.put, List.setIfInBounds_toArray, List.set_cons_zero, List.set_cons_succ]
      refine' wpAnyH_take (i := 4) ?hi4_4 ?hs4_4 ?hf4_4 ?hr4_4 ?hQ4_4 ?hy4_4 (by assumption) ?rest4_4
      case hi4_4 => simp only [List.getElem?_toArray, List.getElem?_cons_succ, List.getElem?_cons_zero] <;> rfl
      case hs4_4 => kernel_rfl
      case hf4_4 => kernel_rfl
      case hr4_4 => kernel_rfl
      case hQ4_4 => exact fun _ _ _ h => h
      case hy4_4 => exact Or.inl ⟨by rfl, fun w hSw => by have q0 := cell_keep l2 hSw; have q1 := cell_keep l3 hSw; have q4 := cell_keep l4 hSw; have q8 := cell_keep l8 hSw; have r0 := cell_keep t0 hSw; have r1 := cell_keep t1 hSw; have r2 := cell_keep t2 hSw; have r3 := cell_keep t3 hSw; have s1 := cell_keep p1 hSw; have s2 := cell_keep p2 hSw; go_simp <;> (try with_reducible rfl)⟩
      simp only [Act.put, List.setIfInBounds_toArray, List.set_cons_zero, List.set_cons_succ]
      refine' wpAnyH_take (i := 5) ?hi5_4 ?hs5_4 ?hf5_4 ?hr5_4 ?hQ5_4 ?hy5_4 (by assumption) ?rest5_4
      case hi5_4 => simp only [List.getElem?_toArray, List.getElem?_cons_succ, List.getElem?_cons_zero] <;> rfl
      case hs5_4 => kernel_rfl
      case hf5_4 => kernel_rfl
      case hr5_4 => kernel_rfl
      case hQ5_4 => exact fun _ _ _ h => h
      case hy5_4 => exact Or.inl ⟨by rfl, fun w hSw => by have q0 := cell_keep l2 hSw; have q1 := cell_keep l3 hSw; have q4 := cell_keep l4 hSw; have q8 := cell_keep l8 hSw; have r0 := cell_keep t0 hSw; have r1 := cell_keep t1 hSw; have r2 := cell_keep t2 hSw; have r3 := cell_keep t3 hSw; have s1 := cell_keep p1 hSw; have s2 := cell_keep p2 hSw; go_simp <;> (try with_reducible rfl)⟩
      simp only [Act.put, List.setIfInBounds_toArray, List.set_cons_zero, List.set_cons_succ]
      refine' wpAnyH_take (i := 6) ?hi6_4 ?hs6_4 ?hf6_4 ?hr6_4 ?hQ6_4 ?hy6_4 (by assumption) ?rest6_4
      case hi6_4 => simp only [List.getElem?_toArray, List.getElem?_cons_succ, List.getElem?_cons_zero] <;> rfl
      case hs6_4 => kernel_rfl
      case hf6_4 => kernel_rfl
      case hr6_4 => kernel_rfl
      case hQ6_4 => exact fun _ _ _ h => h
      case hy6_4 => exact Or.inl ⟨by rfl, fun w hSw => by have q0 := cell_keep l2 hSw; have q1 := cell_keep l3 hSw; have q4 := cell_keep l4 hSw; have q8 := cell_keep l8 hSw; have r0 := cell_keep t0 hSw; have r1 := cell_keep t1 hSw; have r2 := cell_keep t2 hSw; have r3 := cell_keep t3 hSw; have s1 := cell_keep p1 hSw; have s2 := cell_keep p2 hSw; go_simp <;> (try with_reducible rfl)⟩
      simp only [Act.put, List.setIfInBounds_toArray, List.set_cons_zero, List.set_cons_succ]
      refine' wpAnyH_take (i := 7) ?hi7_4 ?hs7_4 ?hf7_4 ?hr7_4 ?hQ7_4 ?hy7_4 (by assumption) ?rest7_4
      case hi7_4 => simp only [List.getElem?_toArray, List.getElem?_cons_succ, List.getElem?_cons_zero] <;> rfl
      case hs7_4 => kernel_rfl
      case hf7_4 => kernel_rfl
      case hr7_4 => kernel_rfl
      case hQ7_4 => exact fun _ _ _ h => h
      case hy7_4 => exact Or.inl ⟨by rfl, fun w hSw => by have q0 := cell_keep l2 hSw; have q1 := cell_keep l3 hSw; have q4 := cell_keep l4 hSw; have q8 := cell_keep l8 hSw; have r0 := cell_keep t0 hSw; have r1 := cell_keep t1 hSw; have r2 := cell_keep t2 hSw; have r3 := cell_keep t3 hSw; have s1 := cell_keep p1 hSw; have s2 := cell_keep p2 hSw; go_simp <;> (try with_reducible rfl)⟩
      simp only [Act.put, List.setIfInBounds_toArray, List.set_cons_zero, List.set_cons_succ]
      refine' wpAnyH_take (i := 8) ?hi8_4 ?hs8_4 ?hf8_4 ?hr8_4 ?hQ8_4 ?hy8_4 (by assumption) ?rest8_4
      case hi8_4 => simp only [List.getElem?_toArray, List.getElem?_cons_succ, List.getElem?_cons_zero] <;> rfl
      case hs8_4 => kernel_rfl
      case hf8_4 => kernel_rfl
      case hr8_4 => kernel_rfl
      case hQ8_4 => exact fun _ _ _ h => h
      case hy8_4 => exact Or.inl ⟨by rfl, fun w hSw => by have q0 := cell_keep l2 hSw; have q1 := cell_keep l3 hSw; have q4 := cell_keep l4 hSw; have q8 := cell_keep l8 hSw; have r0 := cell_keep t0 hSw; have r1 := cell_keep t1 hSw; have r2 := cell_keep t2 hSw; have r3 := cell_keep t3 hSw; have s1 := cell_keep p1 hSw; have s2 := cell_keep p2 hSw; go_simp <;> (try with_reducible rfl)⟩
      simp only [Act.put, List.setIfInBounds_toArray, List.set_cons_zero, List.set_cons_succ]
      refine' wpAnyH_take (i := 9) ?hi9_4 ?hs9_4 ?hf9_4 ?hr9_4 ?hQ9_4 ?hy9_4 (by assumption) ?rest9_4
      case hi9_4 => simp only [List.getElem?_toArray, List.getElem?_cons_succ, List.getElem?_cons_zero] <;> rfl
      case hs9_4 => kernel_rfl
      case hf9_4 => kernel_rfl
      case hr9_4 => kernel_rfl
      case hQ9_4 => exact fun _ _ _ h => h
      case hy9_4 => exact Or.inl ⟨by rfl, fun w hSw => by have q0 := cell_keep l2 hSw; have q1 := cell_keep l3 hSw; have q4 := cell_keep l4 hSw; have q8 := cell_keep l8 hSw; have r0 := cell_keep t0 hSw; have r1 := cell_keep t1 hSw; have r2 := cell_keep t2 hSw; have r3 := cell_keep t3 hSw; have s1 := cell_keep p1 hSw; have s2 := cell_keep p2 hSw; go_simp <;> (try with_reducible rfl)⟩
      simp only [Act.put, List.setIfInBounds_toArray, List.set_cons_zero, List.set_cons_succ]
      refine' wpAnyH_take (i := 10) ?hi10_4 ?hs10_4 ?hf10_4 ?hr10_4 ?hQ10_4 ?hy10_4 (by assumption) ?rest10_4
      case hi10_4 => simp only [List.getElem?_toArray, List.getElem?_cons_succ, List.getElem?_cons_zero] <;> rfl
      case hs10_4 => kernel_rfl
      case hf10_4 => kernel_rfl
      case hr10_4 => kernel_rfl
      case hQ10_4 => exact fun _ _ _ h => h
      case hy10_4 => exact Or.inl ⟨by rfl, fun w hSw => by have q0 := cell_keep l2 hSw; have q1 := cell_keep l3 hSw; have q4 := cell_keep l4 hSw; have q8 := cell_keep l8 hSw; have r0 := cell_keep t0 hSw; have r1 := cell_keep t1 hSw; have r2 := cell_keep t2 hSw; have r3 := cell_keep t3 hSw; have s1 := cell_keep p1 hSw; have s2 := cell_keep p2 hSw; go_simp <;> (try with_reducible rfl)⟩
      simp only [Act.put, List.setIfInBounds_toArray, List.set_cons_zero, List.set_cons_succ]
      refine' wpAnyH_take (i := 11) ?hi11_4 ?hs11_4 ?hf11_4 ?hr11_4 ?hQ11_4 ?hy11_4 (by assumption) ?rest11_4
      case hi11_4 => simp only [List.getElem?_toArray, List.getElem?_cons_succ, List.getElem?_cons_zero] <;> rfl
      case hs11_4 => kernel_rfl
      case hf11_4 => kernel_rfl
      case hr11_4 => kernel_rfl
      case hQ11_4 => exact fun _ _ _ h => h
      case hy11_4 => exact Or.inl ⟨by rfl, fun w hSw => by have q0 := cell_keep l2 hSw; have q1 := cell_keep l3 hSw; have q4 := cell_keep l4 hSw; have q8 := cell_keep l8 hSw; have r0 := cell_keep t0 hSw; have r1 := cell_keep t1 hSw; have r2 := cell_keep t2 hSw; have r3 := cell_keep t3 hSw; have s1 := cell_keep p1 hSw; have s2 := cell_keep p2 hSw; go_simp <;> (try with_reducible rfl)⟩
      simp only [Act.put, List.setIfInBounds_toArray, List.set_cons_zero, List.set_cons_succ]
      refine' wpAnyH_take (i := 12) ?hi12_4 ?hs12_4 ?hf12_4 ?hr12_4 ?hQ12_4 ?hy12_4 (by assumption) ?rest12_4
      case hi12_4 => simp only [List.getElem?_toArray, List.getElem?_cons_succ, List.getElem?_cons_zero] <;> rfl
      case hs12_4 => kernel_rfl
      case hf12_4 => kernel_rfl
      case hr12_4 => kernel_rfl
      case hQ12_4 => exact fun _ _ _ h => h
      case hy12_4 => exact Or.inr ⟨by kernel_rfl, rfl⟩
      simp only [Act.put, List.setIfInBounds_toArray, List.set_cons_zero, List.set_cons_succ]
      refine' wpAnyH_take (i := 13) ?hi13_4 ?hs13_4 ?hf13_4 ?hr13_4 ?hQ13_4 ?hy13_4 (by assumption) ?rest13_4
      case hi13_4 => simp only [List.getElem?_toArray, List.getElem?_cons_succ, List.getElem?_cons_zero] <;> rfl
      case hs13_4 => kernel_rfl
      case hf13_4 => kernel_rfl
      case hr13_4 => kernel_rfl
      case hQ13_4 => exact fun _ _ _ h => h
      case hy13_4 => exact Or.inr ⟨by kernel_rfl, rfl⟩
      simp only [Act.put, List.setIfInBounds_toArray, List.set_cons_zero, List.set_cons_succ]
      refine' wpAnyH_take (i := 14) ?hi14_4 ?hs14_4 ?hf14_4 ?hr14_4 ?hQ14_4 ?hy14_4 (by assumption) ?rest14_4
      case hi14_4 => simp only [List.getElem?_toArray, List.getElem?_cons_succ, List.getElem?_cons_zero] <;> rfl
      case hs14_4 => kernel_rfl
      case hf14_4 => kernel_rfl
      case hr14_4 => kernel_rfl
      case hQ14_4 => exact fun _ _ _ h => h
      case hy14_4 => exact Or.inr ⟨by kernel_rfl, rfl⟩
      simp only [Act.put, List.setIfInBounds_toArray, List.set_cons_zero, List.set_cons_succ]
      refine' wpAnyH_take (i := 15) ?hi15_4 ?hs15_4 ?hf15_4 ?hr15_4 ?hQ15_4 ?hy15_4 (by assumption) ?rest15_4
      case hi15_4 => simp only [List.getElem?_toArray, List.getElem?_cons_succ, List.getElem?_cons_zero] <;> rfl
      case hs15_4 => kernel_rfl
      case hf15_4 => kernel_rfl
      case hr15_4 => kernel_rfl
      case hQ15_4 => exact fun _ _ _ h => h
      case hy15_4 => exact Or.inr ⟨by kernel_rfl, rfl⟩
      simp only [Act.put, List.setIfInBounds_toArray, List.set_cons_zero, List.set_cons_succ]
      refine' wpAnyH_take (i := 16) ?hi16_4 ?hs16_4 ?hf16_4 ?hr16_4 ?hQ16_4 ?hy16_4 (by assumption) ?rest16_4
      case hi16_4 => simp only [List.getElem?_toArray, List.getElem?_cons_succ, List.getElem?_cons_zero] <;> rfl
      case hs16_4 => kernel_rfl
      case hf16_4 => kernel_rfl
      case hr16_4 => kernel_rfl
      case hQ16_4 => exact fun _ _ _ h => h
      case hy16_4 => exact Or.inr ⟨by kernel_rfl, rfl⟩
      simp only [Act.put, List.setIfInBounds_toArray, List.set_cons_zero, List.set_cons_succ]
      refine' wpAnyH_take (i := 17) ?hi17_4 ?hs17_4 ?hf17_4 ?hr17_4 ?hQ17_4 ?hy17_4 (by assumption) ?rest17_4
      case hi17_4 => simp only [List.getElem?_toArray, List.getElem?_cons_succ, List.getElem?_cons_zero] <;> rfl
      case hs17_4 => kernel_rfl
      case hf17_4 => kernel_rfl
      case hr17_4 => kernel_rfl
      case hQ17_4 => exact fun _ _ _ h => h
      case hy17_4 => exact Or.inr ⟨by kernel_rfl, rfl⟩
      simp only [Act.put, List.setIfInBounds_toArray, List.set_cons_zero, List.set_cons_succ]
      refine' wpAnyH_take (i := 18) ?hi18_4 ?hs18_4 ?hf18_4 ?hr18_4 ?hQ18_4 ?hy18_4 (by assumption) ?rest18_4
      case hi18_4 => simp only [List.getElem?_toArray, List.getElem?_cons_succ, List.getElem?_cons_zero] <;> rfl
      case hs18_4 => kernel_rfl
      case hf18_4 => kernel_rfl
      case hr18_4 => kernel_rfl
      case hQ18_4 => exact fun _ _ _ h => h
      case hy18_4 => exact Or.inr ⟨by kernel_rfl, rfl⟩
      simp only [Act.put, List.setIfInBounds_toArray, List.set_cons_zero, List.set_cons_succ]
      refine' wpAnyH_take (i := 19) ?hi19_4 ?hs19_4 ?hf19_4 ?hr19_4 ?hQ19_4 ?hy19_4 (by assumption) ?rest19_4
      case hi19_4 => simp only [List.getElem?_toArray, List.getElem?_cons_succ, List.getElem?_cons_zero] <;> rfl
      case hs19_4 => kernel_rfl
      case hf19_4 => kernel_rfl
      case hr19_4 => kernel_rfl
      case hQ19_4 => exact fun _ _ _ h => h
      case hy19_4 => exact Or.inr ⟨by kernel_rfl, rfl⟩
      simp only [Act.put, List.setIfInBounds_toArray, List.set_cons_zero, List.set_cons_succ]
      refine' wpAnyH_take (i := 20) ?hi20_4 ?hs20_4 ?hf20_4 ?hr20_4 ?hQ20_4 ?hy20_4 (by assumption) ?rest20_4
      case hi20_4 => simp only [List.getElem?_toArray, List.getElem?_cons_succ, List.getElem?_cons_zero] <;> rfl
      case hs20_4 => kernel_rfl
      case hf20_4 => kernel_rfl
      case hr20_4 => kernel_rfl
      case hQ20_4 => exact fun _ _ _ h => h
      case hy20_4 => exact Or.inr ⟨by kernel_rfl, rfl⟩
      simp only [Act.put, List.setIfInBounds_toArray, List.set_cons_zero, List.set_cons_succ]
      refine' wpAnyH_take (i := 21) ?hi21_4 ?hs21_4 ?hf21_4 ?hr21_4 ?hQ21_4 ?hy21_4 (by assumption) ?rest21_4
      case hi21_4 => simp only [List.getElem?_toArray, List.getElem?_cons_succ, List.getElem?_cons_zero] <;> rfl
      case hs21_4 => kernel_rfl
      case hf21_4 => kernel_rfl
      case hr21_4 => kernel_rfl
      case hQ21_4 => exact fun _ _ _ h => h
      case hy21_4 => exact Or.inr ⟨by kernel_rfl, rfl⟩
      simp only [Act.put, List.setIfInBounds_toArray, List.set_cons_zero, List.set_cons_succ]
      refine' wpAnyH_take (i := 22) ?hi22_4 ?hs22_4 ?hf22_4 ?hr22_4 ?hQ22_4 ?hy22_4 (by assumption) ?rest22_4
      case hi22_4 => simp only [List.getElem?_toArray, List.getElem?_cons_succ, List.getElem?_cons_zero] <;> rfl
      case hs22_4 => kernel_rfl
      case hf22_4 => kernel_rfl
      case hr22_4 => kernel_rfl
      case hQ22_4 => exact fun _ _ _ h => h
      case hy22_4 => exact Or.inr ⟨by kernel_rfl, rfl⟩
      simp only [Act.put, List.setIfInBounds_toArray, List.set_cons_zero, List.set_cons_succ]
      refine' wpAnyH_take (i := 23) ?hi23_4 ?hs23_4 ?hf23_4 ?hr23_4 ?hQ23_4 ?hy23_4 (by assumption) ?rest23_4
      case hi23_4 => simp only [List.getElem?_toArray, List.getElem?_cons_succ, List.getElem?_cons_zero] <;> rfl
      case hs23_4 => kernel_rfl
      case hf23_4 => kernel_rfl
      case hr23_4 => kernel_rfl
      case hQ23_4 => exact fun _ _ _ h => h
      case hy23_4 => exact Or.inl ⟨by rfl, fun w hSw => by go_simp <;> (try with_reducible rfl)⟩
      simp only [Act.put, List.setIfInBounds_toArray, List.set_cons_zero, List.set_cons_succ]
      refine wpAnyH_done (by kernel_rfl) ?_ _
      refine NoPanic.normal ?_
      go_wp2_with fail
      go_ret
      have K3 : Keeps w w1.drew.drew.drew := Touch.drew (Touch.drew (Touch.drew K1))
      exact ⟨false, f, L, G, ats, av, rfl, ⟨HSt.out.keep K3, HBh.out.keep K3, HN.out.at_touch K3 (fun h => h) K3.size, HAt.out.touch K3 (fun _ _ h => h), HI.out⟩, fun hh => (by cases hh), fun _ => rfl, fun j => ⟨rfl, rfl⟩, fun _ h => .inl h, fun hh => absurd hc hh, K3.mono (fun _ h _ => h.elim)⟩
  · obtain ⟨cp, hcp⟩ : ∃ cp : Nat, cp + 1 = c := ⟨c - 1, by omega⟩
    have hcb : ((c : Int) == 0) = false := by simp; omega
    have gs1 : IntKind.i64.wrap ((c : Int) - 1) = cp := by rw [IntWalk.i64_in _ ⟨by omega, by omega⟩]; omega
    have hcpm : cp < m := by omega
    have hcpI : (cp : Int) < m := by omega
    obtain ⟨ab, ao, hab, hkd⟩ := (hAc.keep K1).at_ (k := cp) hcpm (by omega)
    subst hab
    have kd : w1.cell? ⟨ab, ao + cp * 4, none⟩ = some (.int .i64 (C cp).kind) := by have := hkd 0 (by omega); simpa [clF] using this
    clear hkd
    obtain ⟨len, hlen⟩ : ∃ len : Int, len = if (C cp).kind = 2 then da % 5 else 0 := ⟨_, rfl⟩
    have hl5 : da.tmod 5 = da % 5 := Int.tmod_eq_emod_of_nonneg hd0
    have hlb : 0 ≤ len ∧ len ≤ 4 := by rw [hlen]; split <;> omega
    have hE : shE C m c len = 0 := by
      unfold shE
      rw [if_neg (by omega), if_neg, if_neg (by omega)]
      rw [show ((c : Int) - 1).toNat = cp by omega, hlen]
      intro hh
      rcases hh with hh | ⟨h1, h2⟩
      · split at hh <;> omega
      · rw [if_neg h2] at h1; omega
    have hsb := sh_bd HSt.out.tb.ok hE
    have HW := Lib.hid (show shW C m c len = 2 + shR C m c len + shD C m c len by unfold shW; rw [if_pos hE])
    have HSh := Lib.hid (show ∀ w', Keeps w w' → Calls Tryz.prog 56 #[.slice (some ⟨ab, ao, none⟩) m cc, .int .i64 c, .int .i64 len] w' fun e w2 => e = .returned (.tuple #[.int .i64 (shR C m c len), .int .i64 (shD C m c len), .int .i64 0]) ∧ Keeps w' w2 from fun w' kk => by
      have hh := rshape_any (some ⟨ab, ao, none⟩) m cc C w' (hAc.keep kk) HSt.out.tb.ok (by omega) c len
      rw [hE] at hh
      exact hh)
    have HLy := Lib.hid (show ∀ w', Keeps w w' → thB n tt (shW C m c len) = true → Calls Tryz.prog 57 #[.agg #[.pointer (some ⟨ba, 0, none⟩), .pointer (some ⟨bt, 0, none⟩)], .int .i64 tt, .int .i64 c, .int .i64 len] w' fun e w2 => e = .returned (.int .i64 0) ∧ St w2 ba bw n (layF f tt (shW C m c len) (layW c (C ((c : Int) - 1).toNat).fin) len) bt A m cap C ∧ Only bw w' w2 from fun w' kk hT => lay_yes ba bw n f bt A m cap C w' (HSt.out.keep kk) tt c len hE hT)
    have HLa := Lib.hid (fun hT => laid_at (n := n) (f := f) (a := tt) HSt.out.tb.ok HSt.out.tb.le hE hT)
    have HOk := Lib.hid (lay_ok HSt.out.tb.ok HSt.out.tb.le hE).2
    have HCls := Lib.hid hE
    have HLen := Lib.hid hlen
    clear hE hAc hlen
    obtain ⟨rs0, rs1, ds0, ds1⟩ := hsb
    go_upto_if 82 with fail
    go_cut [8] from 83 to 87 (fun v wx => v = .int .i64 len ∧ w1.drew.drew = wx)
    case first =>
      clear HSh HLy HLa HOk HCls HW
      have hlen := HLen.out
      clear HLen
      by_cases hk2 : (C cp).kind = 2
      · rw [if_pos hk2] at hlen
        have hkb : ((C cp).kind == 2) = true := by simpa using hk2
        go_wp2_with fail
        go_meet
        exact ⟨by rw [hlen], rfl⟩
      · rw [if_neg hk2] at hlen
        have hkb : ((C cp).kind == 2) = false := by simpa using hk2
        go_wp2_with fail
        go_meet
        exact ⟨by rw [hlen], rfl⟩
    case rest =>
    obtain ⟨rfl, rfl⟩ := hcut
    have KD : Keeps w w1.drew.drew := Touch.drew (Touch.drew K1)
    go_wp2_with fail
    refine Calls.mono (HSh.out _ KD) ?_
    clear HSh HLen
    rintro e w3 ⟨rfl, k3⟩
    have K3 : Keeps w w3 := Keeps.trans KD k3
    have k13 : Keeps w1 w3 := Keeps.trans (Touch.drew (Touch.drew (Touch.refl (fun _ => False) w1))) k3
    have l2 := cell_keep l2 k13
    have l3 := cell_keep l3 k13
    have l4 := cell_keep l4 k13
    have l8 := cell_keep l8 k13
    have t0 := cell_keep t0 k13
    have t1 := cell_keep t1 k13
    have t2 := cell_keep t2 k13
    have t3 := cell_keep t3 k13
    have p1 := cell_keep p1 k13
    have p2 := cell_keep p2 k13
    have BT3 := BT.keep k13
    generalize shR C m c len = r at *
    generalize shD C m c len = d at *
    obtain ⟨wd, hwd⟩ : ∃ wd : Int, wd = 2 + r + d := ⟨_, rfl⟩
    have gw1 : IntKind.i64.wrap (2 + r) = 2 + r := IntWalk.i64_in _ ⟨by omega, by omega⟩
    have gw2 : IntKind.i64.wrap (2 + r + d) = wd := by rw [hwd]; exact IntWalk.i64_in _ ⟨by omega, by omega⟩
    have hw2 : 2 ≤ wd ∧ wd ≤ 92 := by omega
    have HWd := Lib.hid hwd
    have z13 := k13.size
    clear hwd hB1 kd BT k13
    rw [HW.out, ← HWd.out] at HLy HLa
    by_cases hroom : te - tt < wd
    · go_wp2_with fail
      refine wp_region_noPanic ?_
      refine wp_region_held_drew (S := (fun w' => Keeps w3 w')) (by kernel_rfl) (Touch.refl _ w3).drew (fun hHeld => ?_)
      refine' wpAnyH_take (i := 0) ?hi0_6 ?hs0_6 ?hf0_6 ?hr0_6 ?hQ0_6 ?hy0_6 (by assumption) ?rest0_6
      case hi0_6 => simp only [List.getElem?_toArray, List.getElem?_cons_zero] <;> rfl
      case hs0_6 => kernel_rfl
      case hf0_6 => kernel_rfl
      case hr0_6 => kernel_rfl
      case hQ0_6 => exact fun _ _ _ h => h
      case hy0_6 => exact Or.inl ⟨by rfl, fun w hSw => by have q0 := cell_keep l2 hSw; have q1 := cell_keep l3 hSw; have q4 := cell_keep l4 hSw; have q8 := cell_keep l8 hSw; have r0 := cell_keep t0 hSw; have r1 := cell_keep t1 hSw; have r2 := cell_keep t2 hSw; have r3 := cell_keep t3 hSw; have s1 := cell_keep p1 hSw; have s2 := cell_keep p2 hSw; go_simp <;> (try with_reducible rfl)⟩
      simp only [Act.put, List.setIfInBounds_toArray, List.set_cons_zero, List.set_cons_succ]
      refine' wpAnyH_take (i := 1) ?hi1_6 ?hs1_6 ?hf1_6 ?hr1_6 ?hQ1_6 ?hy1_6 (by assumption) ?rest1_6
      case hi1_6 => simp only [List.getElem?_toArray, List.getElem?_cons_succ, List.getElem?_cons_zero] <;> rfl
      case hs1_6 => kernel_rfl
      case hf1_6 => kernel_rfl
      case hr1_6 => kernel_rfl
      case hQ1_6 => exact fun _ _ _ h => h
      case hy1_6 => exact Or.inl ⟨by rfl, fun w hSw => by have q0 := cell_keep l2 hSw; have q1 := cell_keep l3 hSw; have q4 := cell_keep l4 hSw; have q8 := cell_keep l8 hSw; have r0 := cell_keep t0 hSw; have r1 := cell_keep t1 hSw; have r2 := cell_keep t2 hSw; have r3 := cell_keep t3 hSw; have s1 := cell_keep p1 hSw; have s2 := cell_keep p2 hSw; go_simp <;> (try with_reducible rfl)⟩
      simp only [Act.put, List.setIfInBounds_toArray, List.set_cons_zero, List.set_cons_succ]
      refine' wpAnyH_take (i := 2) ?hi2_6 ?hs2_6 ?hf2_6 ?hr2_6 ?hQ2_6 ?hy2_6 (by assumption) ?rest2_6
      case hi2_6 => simp only [List.getElem?_toArray, List.getElem?_cons_succ, List.getElem?_cons_zero] <;> rfl
      case hs2_6 => kernel_rfl
      case hf2_6 => kernel_rfl
      case hr2_6 => kernel_rfl
      case hQ2_6 => exact fun _ _ _ h => h
      case hy2_6 => exact Or.inl ⟨by rfl, fun w hSw => by have q0 := cell_keep l2 hSw; have q1 := cell_keep l3 hSw; have q4 := cell_keep l4 hSw; have q8 := cell_keep l8 hSw; have r0 := cell_keep t0 hSw; have r1 := cell_keep t1 hSw; have r2 := cell_keep t2 hSw; have r3 := cell_keep t3 hSw; have s1 := cell_keep p1 hSw; have s2 := cell_keep p2 hSw; go_simp <;> (try with_reducible rfl)⟩
      simp only [Act.put, List.setIfInBounds_toArray, List.set_cons_zero, List.set_cons_succ]
      refine' wpAnyH_take (i := 3) ?hi3_6 ?hs3_6 ?hf3_6 ?hr3_6 ?hQ3_6 ?hy3_6 (by assumption) ?rest3_6
      case hi3_6 => simp only [List.getElem?_toArray, List.getElem?_cons_succ, List.getElem?_cons_zero] <;> rfl
      case hs3_6 => kernel_rfl
      case hf3_6 => kernel_rfl
      case hr3_6 => kernel_rfl
      case hQ3_6 => exact fun _ _ _ h => h
      case hy3_6 => exact Or.inl ⟨by rfl, fun w hSw => by have q0 := cell_keep l2 hSw; have q1 := cell_keep l3 hSw; have q4 := cell_keep l4 hSw; have q8 := cell_keep l8 hSw; have r0 := cell_keep t0 hSw; have r1 := cell_keep t1 hSw; have r2 := cell_keep t2 hSw; have r3 := cell_keep t3 hSw; have s1 := cell_keep p1 hSw; have s2 := cell_keep p2 hSw; go_simp <;> (try with_reducible rfl)⟩
      simp only [Act.put, List.setIfInBounds_toArray, List.set_cons_zero, List.set_cons_succ]
      refine' wpAnyH_take (i := 4) ?hi4_6 ?hs4_6 ?hf4_6 ?hr4_6 ?hQ4_6 ?hy4_6 (by assumption) ?rest4_6
      case hi4_6 => simp only [List.getElem?_toArray, List.getElem?_cons_succ, List.getElem?_cons_zero] <;> rfl
      case hs4_6 => kernel_rfl
      case hf4_6 => kernel_rfl
      case hr4_6 => kernel_rfl
      case hQ4_6 => exact fun _ _ _ h => h
      case hy4_6 => exact Or.inl ⟨by rfl, fun w hSw => by have q0 := cell_keep l2 hSw; have q1 := cell_keep l3 hSw; have q4 := cell_keep l4 hSw; have q8 := cell_keep l8 hSw; have r0 := cell_keep t0 hSw; have r1 := cell_keep t1 hSw; have r2 := cell_keep t2 hSw; have r3 := cell_keep t3 hSw; have s1 := cell_keep p1 hSw; have s2 := cell_keep p2 hSw; go_simp <;> (try with_reducible rfl)⟩
      simp only [Act.put, List.setIfInBounds_toArray, List.set_cons_zero, List.set_cons_succ]
      refine' wpAnyH_take (i := 5) ?hi5_6 ?hs5_6 ?hf5_6 ?hr5_6 ?hQ5_6 ?hy5_6 (by assumption) ?rest5_6
      case hi5_6 => simp only [List.getElem?_toArray, List.getElem?_cons_succ, List.getElem?_cons_zero] <;> rfl
      case hs5_6 => kernel_rfl
      case hf5_6 => kernel_rfl
      case hr5_6 => kernel_rfl
      case hQ5_6 => exact fun _ _ _ h => h
      case hy5_6 => exact Or.inl ⟨by rfl, fun w hSw => by have q0 := cell_keep l2 hSw; have q1 := cell_keep l3 hSw; have q4 := cell_keep l4 hSw; have q8 := cell_keep l8 hSw; have r0 := cell_keep t0 hSw; have r1 := cell_keep t1 hSw; have r2 := cell_keep t2 hSw; have r3 := cell_keep t3 hSw; have s1 := cell_keep p1 hSw; have s2 := cell_keep p2 hSw; go_simp <;> (try with_reducible rfl)⟩
      simp only [Act.put, List.setIfInBounds_toArray, List.set_cons_zero, List.set_cons_succ]
      refine' wpAnyH_take (i := 6) ?hi6_6 ?hs6_6 ?hf6_6 ?hr6_6 ?hQ6_6 ?hy6_6 (by assumption) ?rest6_6
      case hi6_6 => simp only [List.getElem?_toArray, List.getElem?_cons_succ, List.getElem?_cons_zero] <;> rfl
      case hs6_6 => kernel_rfl
      case hf6_6 => kernel_rfl
      case hr6_6 => kernel_rfl
      case hQ6_6 => exact fun _ _ _ h => h
      case hy6_6 => exact Or.inl ⟨by rfl, fun w hSw => by have q0 := cell_keep l2 hSw; have q1 := cell_keep l3 hSw; have q4 := cell_keep l4 hSw; have q8 := cell_keep l8 hSw; have r0 := cell_keep t0 hSw; have r1 := cell_keep t1 hSw; have r2 := cell_keep t2 hSw; have r3 := cell_keep t3 hSw; have s1 := cell_keep p1 hSw; have s2 := cell_keep p2 hSw; go_simp <;> (try with_reducible rfl)⟩
      simp only [Act.put, List.setIfInBounds_toArray, List.set_cons_zero, List.set_cons_succ]
      refine' wpAnyH_take (i := 7) ?hi7_6 ?hs7_6 ?hf7_6 ?hr7_6 ?hQ7_6 ?hy7_6 (by assumption) ?rest7_6
      case hi7_6 => simp only [List.getElem?_toArray, List.getElem?_cons_succ, List.getElem?_cons_zero] <;> rfl
      case hs7_6 => kernel_rfl
      case hf7_6 => kernel_rfl
      case hr7_6 => kernel_rfl
      case hQ7_6 => exact fun _ _ _ h => h
      case hy7_6 => exact Or.inl ⟨by rfl, fun w hSw => by have q0 := cell_keep l2 hSw; have q1 := cell_keep l3 hSw; have q4 := cell_keep l4 hSw; have q8 := cell_keep l8 hSw; have r0 := cell_keep t0 hSw; have r1 := cell_keep t1 hSw; have r2 := cell_keep t2 hSw; have r3 := cell_keep t3 hSw; have s1 := cell_keep p1 hSw; have s2 := cell_keep p2 hSw; go_simp <;> (try with_reducible rfl)⟩
      simp only [Act.put, List.setIfInBounds_toArray, List.set_cons_zero, List.set_cons_succ]
      refine' wpAnyH_take (i := 8) ?hi8_6 ?hs8_6 ?hf8_6 ?hr8_6 ?hQ8_6 ?hy8_6 (by assumption) ?rest8_6
      case hi8_6 => simp only [List.getElem?_toArray, List.getElem?_cons_succ, List.getElem?_cons_zero] <;> rfl
      case hs8_6 => kernel_rfl
      case hf8_6 => kernel_rfl
      case hr8_6 => kernel_rfl
      case hQ8_6 => exact fun _ _ _ h => h
      case hy8_6 => exact Or.inl ⟨by rfl, fun w hSw => by have q0 := cell_keep l2 hSw; have q1 := cell_keep l3 hSw; have q4 := cell_keep l4 hSw; have q8 := cell_keep l8 hSw; have r0 := cell_keep t0 hSw; have r1 := cell_keep t1 hSw; have r2 := cell_keep t2 hSw; have r3 := cell_keep t3 hSw; have s1 := cell_keep p1 hSw; have s2 := cell_keep p2 hSw; go_simp <;> (try with_reducible rfl)⟩
      simp only [Act.put, List.setIfInBounds_toArray, List.set_cons_zero, List.set_cons_succ]
      refine' wpAnyH_take (i := 9) ?hi9_6 ?hs9_6 ?hf9_6 ?hr9_6 ?hQ9_6 ?hy9_6 (by assumption) ?rest9_6
      case hi9_6 => simp only [List.getElem?_toArray, List.getElem?_cons_succ, List.getElem?_cons_zero] <;> rfl
      case hs9_6 => kernel_rfl
      case hf9_6 => kernel_rfl
      case hr9_6 => kernel_rfl
      case hQ9_6 => exact fun _ _ _ h => h
      case hy9_6 => exact Or.inl ⟨by rfl, fun w hSw => by have q0 := cell_keep l2 hSw; have q1 := cell_keep l3 hSw; have q4 := cell_keep l4 hSw; have q8 := cell_keep l8 hSw; have r0 := cell_keep t0 hSw; have r1 := cell_keep t1 hSw; have r2 := cell_keep t2 hSw; have r3 := cell_keep t3 hSw; have s1 := cell_keep p1 hSw; have s2 := cell_keep p2 hSw; go_simp <;> (try with_reducible rfl)⟩
      simp only [Act.put, List.setIfInBounds_toArray, List.set_cons_zero, List.set_cons_succ]
      refine' wpAnyH_take (i := 10) ?hi10_6 ?hs10_6 ?hf10_6 ?hr10_6 ?hQ10_6 ?hy10_6 (by assumption) ?rest10_6
      case hi10_6 => simp only [List.getElem?_toArray, List.getElem?_cons_succ, List.getElem?_cons_zero] <;> rfl
      case hs10_6 => kernel_rfl
      case hf10_6 => kernel_rfl
      case hr10_6 => kernel_rfl
      case hQ10_6 => exact fun _ _ _ h => h
      case hy10_6 => exact Or.inl ⟨by rfl, fun w hSw => by have q0 := cell_keep l2 hSw; have q1 := cell_keep l3 hSw; have q4 := cell_keep l4 hSw; have q8 := cell_keep l8 hSw; have r0 := cell_keep t0 hSw; have r1 := cell_keep t1 hSw; have r2 := cell_keep t2 hSw; have r3 := cell_keep t3 hSw; have s1 := cell_keep p1 hSw; have s2 := cell_keep p2 hSw; go_simp <;> (try with_reducible rfl)⟩
      simp only [Act.put, List.setIfInBounds_toArray, List.set_cons_zero, List.set_cons_succ]
      refine' wpAnyH_take (i := 11) ?hi11_6 ?hs11_6 ?hf11_6 ?hr11_6 ?hQ11_6 ?hy11_6 (by assumption) ?rest11_6
      case hi11_6 => simp only [List.getElem?_toArray, List.getElem?_cons_succ, List.getElem?_cons_zero] <;> rfl
      case hs11_6 => kernel_rfl
      case hf11_6 => kernel_rfl
      case hr11_6 => kernel_rfl
      case hQ11_6 => exact fun _ _ _ h => h
      case hy11_6 => exact Or.inl ⟨by rfl, fun w hSw => by have q0 := cell_keep l2 hSw; have q1 := cell_keep l3 hSw; have q4 := cell_keep l4 hSw; have q8 := cell_keep l8 hSw; have r0 := cell_keep t0 hSw; have r1 := cell_keep t1 hSw; have r2 := cell_keep t2 hSw; have r3 := cell_keep t3 hSw; have s1 := cell_keep p1 hSw; have s2 := cell_keep p2 hSw; go_simp <;> (try with_reducible rfl)⟩
      simp only [Act.put, List.setIfInBounds_toArray, List.set_cons_zero, List.set_cons_succ]
      refine' wpAnyH_take (i := 12) ?hi12_6 ?hs12_6 ?hf12_6 ?hr12_6 ?hQ12_6 ?hy12_6 (by assumption) ?rest12_6
      case hi12_6 => simp only [List.getElem?_toArray, List.getElem?_cons_succ, List.getElem?_cons_zero] <;> rfl
      case hs12_6 => kernel_rfl
      case hf12_6 => kernel_rfl
      case hr12_6 => kernel_rfl
      case hQ12_6 => exact fun _ _ _ h => h
      case hy12_6 => exact Or.inr ⟨by kernel_rfl, rfl⟩
      simp only [Act.put, List.setIfInBounds_toArray, List.set_cons_zero, List.set_cons_succ]
      refine' wpAnyH_take (i := 13) ?hi13_6 ?hs13_6 ?hf13_6 ?hr13_6 ?hQ13_6 ?hy13_6 (by assumption) ?rest13_6
      case hi13_6 => simp only [List.getElem?_toArray, List.getElem?_cons_succ, List.getElem?_cons_zero] <;> rfl
      case hs13_6 => kernel_rfl
      case hf13_6 => kernel_rfl
      case hr13_6 => kernel_rfl
      case hQ13_6 => exact fun _ _ _ h => h
      case hy13_6 => exact Or.inr ⟨by kernel_rfl, rfl⟩
      simp only [Act.put, List.setIfInBounds_toArray, List.set_cons_zero, List.set_cons_succ]
      refine' wpAnyH_take (i := 14) ?hi14_6 ?hs14_6 ?hf14_6 ?hr14_6 ?hQ14_6 ?hy14_6 (by assumption) ?rest14_6
      case hi14_6 => simp only [List.getElem?_toArray, List.getElem?_cons_succ, List.getElem?_cons_zero] <;> rfl
      case hs14_6 => kernel_rfl
      case hf14_6 => kernel_rfl
      case hr14_6 => kernel_rfl
      case hQ14_6 => exact fun _ _ _ h => h
      case hy14_6 => exact Or.inr ⟨by kernel_rfl, rfl⟩
      simp only [Act.put, List.setIfInBounds_toArray, List.set_cons_zero, List.set_cons_succ]
      refine' wpAnyH_take (i := 15) ?hi15_6 ?hs15_6 ?hf15_6 ?hr15_6 ?hQ15_6 ?hy15_6 (by assumption) ?rest15_6
      case hi15_6 => simp only [List.getElem?_toArray, List.getElem?_cons_succ, List.getElem?_cons_zero] <;> rfl
      case hs15_6 => kernel_rfl
      case hf15_6 => kernel_rfl
      case hr15_6 => kernel_rfl
      case hQ15_6 => exact fun _ _ _ h => h
      case hy15_6 => exact Or.inr ⟨by kernel_rfl, rfl⟩
      simp only [Act.put, List.setIfInBounds_toArray, List.set_cons_zero, List.set_cons_succ]
      refine' wpAnyH_take (i := 16) ?hi16_6 ?hs16_6 ?hf16_6 ?hr16_6 ?hQ16_6 ?hy16_6 (by assumption) ?rest16_6
      case hi16_6 => simp only [List.getElem?_toArray, List.getElem?_cons_succ, List.getElem?_cons_zero] <;> rfl
      case hs16_6 => kernel_rfl
      case hf16_6 => kernel_rfl
      case hr16_6 => kernel_rfl
      case hQ16_6 => exact fun _ _ _ h => h
      case hy16_6 => exact Or.inr ⟨by kernel_rfl, rfl⟩
      simp only [Act.put, List.setIfInBounds_toArray, List.set_cons_zero, List.set_cons_succ]
      refine' wpAnyH_take (i := 17) ?hi17_6 ?hs17_6 ?hf17_6 ?hr17_6 ?hQ17_6 ?hy17_6 (by assumption) ?rest17_6
      case hi17_6 => simp only [List.getElem?_toArray, List.getElem?_cons_succ, List.getElem?_cons_zero] <;> rfl
      case hs17_6 => kernel_rfl
      case hf17_6 => kernel_rfl
      case hr17_6 => kernel_rfl
      case hQ17_6 => exact fun _ _ _ h => h
      case hy17_6 => exact Or.inr ⟨by kernel_rfl, rfl⟩
      simp only [Act.put, List.setIfInBounds_toArray, List.set_cons_zero, List.set_cons_succ]
      refine' wpAnyH_take (i := 18) ?hi18_6 ?hs18_6 ?hf18_6 ?hr18_6 ?hQ18_6 ?hy18_6 (by assumption) ?rest18_6
      case hi18_6 => simp only [List.getElem?_toArray, List.getElem?_cons_succ, List.getElem?_cons_zero] <;> rfl
      case hs18_6 => kernel_rfl
      case hf18_6 => kernel_rfl
      case hr18_6 => kernel_rfl
      case hQ18_6 => exact fun _ _ _ h => h
      case hy18_6 => exact Or.inr ⟨by kernel_rfl, rfl⟩
      simp only [Act.put, List.setIfInBounds_toArray, List.set_cons_zero, List.set_cons_succ]
      refine' wpAnyH_take (i := 19) ?hi19_6 ?hs19_6 ?hf19_6 ?hr19_6 ?hQ19_6 ?hy19_6 (by assumption) ?rest19_6
      case hi19_6 => simp only [List.getElem?_toArray, List.getElem?_cons_succ, List.getElem?_cons_zero] <;> rfl
      case hs19_6 => kernel_rfl
      case hf19_6 => kernel_rfl
      case hr19_6 => kernel_rfl
      case hQ19_6 => exact fun _ _ _ h => h
      case hy19_6 => exact Or.inr ⟨by kernel_rfl, rfl⟩
      simp only [Act.put, List.setIfInBounds_toArray, List.set_cons_zero, List.set_cons_succ]
      refine' wpAnyH_take (i := 20) ?hi20_6 ?hs20_6 ?hf20_6 ?hr20_6 ?hQ20_6 ?hy20_6 (by assumption) ?rest20_6
      case hi20_6 => simp only [List.getElem?_toArray, List.getElem?_cons_succ, List.getElem?_cons_zero] <;> rfl
      case hs20_6 => kernel_rfl
      case hf20_6 => kernel_rfl
      case hr20_6 => kernel_rfl
      case hQ20_6 => exact fun _ _ _ h => h
      case hy20_6 => exact Or.inr ⟨by kernel_rfl, rfl⟩
      simp only [Act.put, List.setIfInBounds_toArray, List.set_cons_zero, List.set_cons_succ]
      refine' wpAnyH_take (i := 21) ?hi21_6 ?hs21_6 ?hf21_6 ?hr21_6 ?hQ21_6 ?hy21_6 (by assumption) ?rest21_6
      case hi21_6 => simp only [List.getElem?_toArray, List.getElem?_cons_succ, List.getElem?_cons_zero] <;> rfl
      case hs21_6 => kernel_rfl
      case hf21_6 => kernel_rfl
      case hr21_6 => kernel_rfl
      case hQ21_6 => exact fun _ _ _ h => h
      case hy21_6 => exact Or.inr ⟨by kernel_rfl, rfl⟩
      simp only [Act.put, List.setIfInBounds_toArray, List.set_cons_zero, List.set_cons_succ]
      refine' wpAnyH_take (i := 22) ?hi22_6 ?hs22_6 ?hf22_6 ?hr22_6 ?hQ22_6 ?hy22_6 (by assumption) ?rest22_6
      case hi22_6 => simp only [List.getElem?_toArray, List.getElem?_cons_succ, List.getElem?_cons_zero] <;> rfl
      case hs22_6 => kernel_rfl
      case hf22_6 => kernel_rfl
      case hr22_6 => kernel_rfl
      case hQ22_6 => exact fun _ _ _ h => h
      case hy22_6 => exact Or.inr ⟨by kernel_rfl, rfl⟩
      simp only [Act.put, List.setIfInBounds_toArray, List.set_cons_zero, List.set_cons_succ]
      refine' wpAnyH_take (i := 23) ?hi23_6 ?hs23_6 ?hf23_6 ?hr23_6 ?hQ23_6 ?hy23_6 (by assumption) ?rest23_6
      case hi23_6 => simp only [List.getElem?_toArray, List.getElem?_cons_succ, List.getElem?_cons_zero] <;> rfl
      case hs23_6 => kernel_rfl
      case hf23_6 => kernel_rfl
      case hr23_6 => kernel_rfl
      case hQ23_6 => exact fun _ _ _ h => h
      case hy23_6 => exact Or.inr ⟨by kernel_rfl, rfl⟩
      simp only [Act.put, List.setIfInBounds_toArray, List.set_cons_zero, List.set_cons_succ]
      refine' wpAnyH_take (i := 24) ?hi24_6 ?hs24_6 ?hf24_6 ?hr24_6 ?hQ24_6 ?hy24_6 (by assumption) ?rest24_6
      case hi24_6 => simp only [List.getElem?_toArray, List.getElem?_cons_succ, List.getElem?_cons_zero] <;> rfl
      case hs24_6 => kernel_rfl
      case hf24_6 => kernel_rfl
      case hr24_6 => kernel_rfl
      case hQ24_6 => exact fun _ _ _ h => h
      case hy24_6 => exact Or.inl ⟨by rfl, fun w hSw => by go_simp <;> (try with_reducible rfl)⟩
      simp only [Act.put, List.setIfInBounds_toArray, List.set_cons_zero, List.set_cons_succ]
      refine wpAnyH_done (by kernel_rfl) ?_ _
      refine NoPanic.normal ?_
      go_wp2_with fail
      go_ret
      have K4 : Keeps w w3.drew := Touch.drew K3
      exact ⟨false, f, L, G, ats, av, rfl, ⟨HSt.out.keep K4, HBh.out.keep K4, HN.out.at_touch K4 (fun h => h) K4.size, HAt.out.touch K4 (fun _ _ h => h), HI.out⟩, fun hh => (by cases hh), fun _ => rfl, fun j => ⟨rfl, rfl⟩, fun _ h => .inl h, fun _ hF => hF, K4.mono (fun _ h _ => h.elim)⟩
    · have hroomd : decide (te - tt < wd) = false := decide_eq_false hroom
      have hTh : thB n tt wd = true := thB_true.2 ⟨by omega, by omega, by omega, by omega⟩
      go_wp2_with fail
      refine wp_region_noPanic ?_
      refine wp_region_held_drew (S := (fun w' => Only bw w3 w')) (by kernel_rfl) (Only.refl _ w3).drew (fun hHeld => ?_)
      refine' wpAnyH_take (i := 0) ?hi0_5 ?hs0_5 ?hf0_5 ?hr0_5 ?hQ0_5 ?hy0_5 (by assumption) ?rest0_5
      case hi0_5 => simp only [List.getElem?_toArray, List.getElem?_cons_zero] <;> rfl
      case hs0_5 => kernel_rfl
      case hf0_5 => kernel_rfl
      case hr0_5 => kernel_rfl
      case hQ0_5 => exact fun _ _ _ h => h
      case hy0_5 => exact Or.inl ⟨by rfl, fun w hSw => by have q0 := cell_only l2 hSw n1; have q1 := cell_only l3 hSw n1; have q4 := cell_only l4 hSw n1; have q8 := cell_only l8 hSw n1; have r0 := cell_only t0 hSw nT; have r1 := cell_only t1 hSw nT; have r2 := cell_only t2 hSw nT; have r3 := cell_only t3 hSw nT; have s1 := cell_only p1 hSw n2; have s2 := cell_only p2 hSw n2; go_simp <;> (try with_reducible rfl)⟩
      simp only [Act.put, List.setIfInBounds_toArray, List.set_cons_zero, List.set_cons_succ]
      refine' wpAnyH_take (i := 1) ?hi1_5 ?hs1_5 ?hf1_5 ?hr1_5 ?hQ1_5 ?hy1_5 (by assumption) ?rest1_5
      case hi1_5 => simp only [List.getElem?_toArray, List.getElem?_cons_succ, List.getElem?_cons_zero] <;> rfl
      case hs1_5 => kernel_rfl
      case hf1_5 => kernel_rfl
      case hr1_5 => kernel_rfl
      case hQ1_5 => exact fun _ _ _ h => h
      case hy1_5 => exact Or.inl ⟨by rfl, fun w hSw => by have q0 := cell_only l2 hSw n1; have q1 := cell_only l3 hSw n1; have q4 := cell_only l4 hSw n1; have q8 := cell_only l8 hSw n1; have r0 := cell_only t0 hSw nT; have r1 := cell_only t1 hSw nT; have r2 := cell_only t2 hSw nT; have r3 := cell_only t3 hSw nT; have s1 := cell_only p1 hSw n2; have s2 := cell_only p2 hSw n2; go_simp <;> (try with_reducible rfl)⟩
      simp only [Act.put, List.setIfInBounds_toArray, List.set_cons_zero, List.set_cons_succ]
      refine' wpAnyH_take (i := 2) ?hi2_5 ?hs2_5 ?hf2_5 ?hr2_5 ?hQ2_5 ?hy2_5 (by assumption) ?rest2_5
      case hi2_5 => simp only [List.getElem?_toArray, List.getElem?_cons_succ, List.getElem?_cons_zero] <;> rfl
      case hs2_5 => kernel_rfl
      case hf2_5 => kernel_rfl
      case hr2_5 => kernel_rfl
      case hQ2_5 => exact fun _ _ _ h => h
      case hy2_5 => exact Or.inl ⟨by rfl, fun w hSw => by have q0 := cell_only l2 hSw n1; have q1 := cell_only l3 hSw n1; have q4 := cell_only l4 hSw n1; have q8 := cell_only l8 hSw n1; have r0 := cell_only t0 hSw nT; have r1 := cell_only t1 hSw nT; have r2 := cell_only t2 hSw nT; have r3 := cell_only t3 hSw nT; have s1 := cell_only p1 hSw n2; have s2 := cell_only p2 hSw n2; go_simp <;> (try with_reducible rfl)⟩
      simp only [Act.put, List.setIfInBounds_toArray, List.set_cons_zero, List.set_cons_succ]
      refine' wpAnyH_take (i := 3) ?hi3_5 ?hs3_5 ?hf3_5 ?hr3_5 ?hQ3_5 ?hy3_5 (by assumption) ?rest3_5
      case hi3_5 => simp only [List.getElem?_toArray, List.getElem?_cons_succ, List.getElem?_cons_zero] <;> rfl
      case hs3_5 => kernel_rfl
      case hf3_5 => kernel_rfl
      case hr3_5 => kernel_rfl
      case hQ3_5 => exact fun _ _ _ h => h
      case hy3_5 => exact Or.inl ⟨by rfl, fun w hSw => by have q0 := cell_only l2 hSw n1; have q1 := cell_only l3 hSw n1; have q4 := cell_only l4 hSw n1; have q8 := cell_only l8 hSw n1; have r0 := cell_only t0 hSw nT; have r1 := cell_only t1 hSw nT; have r2 := cell_only t2 hSw nT; have r3 := cell_only t3 hSw nT; have s1 := cell_only p1 hSw n2; have s2 := cell_only p2 hSw n2; go_simp <;> (try with_reducible rfl)⟩
      simp only [Act.put, List.setIfInBounds_toArray, List.set_cons_zero, List.set_cons_succ]
      refine' wpAnyH_take (i := 4) ?hi4_5 ?hs4_5 ?hf4_5 ?hr4_5 ?hQ4_5 ?hy4_5 (by assumption) ?rest4_5
      case hi4_5 => simp only [List.getElem?_toArray, List.getElem?_cons_succ, List.getElem?_cons_zero] <;> rfl
      case hs4_5 => kernel_rfl
      case hf4_5 => kernel_rfl
      case hr4_5 => kernel_rfl
      case hQ4_5 => exact fun _ _ _ h => h
      case hy4_5 => exact Or.inl ⟨by rfl, fun w hSw => by have q0 := cell_only l2 hSw n1; have q1 := cell_only l3 hSw n1; have q4 := cell_only l4 hSw n1; have q8 := cell_only l8 hSw n1; have r0 := cell_only t0 hSw nT; have r1 := cell_only t1 hSw nT; have r2 := cell_only t2 hSw nT; have r3 := cell_only t3 hSw nT; have s1 := cell_only p1 hSw n2; have s2 := cell_only p2 hSw n2; go_simp <;> (try with_reducible rfl)⟩
      simp only [Act.put, List.setIfInBounds_toArray, List.set_cons_zero, List.set_cons_succ]
      refine' wpAnyH_take (i := 5) ?hi5_5 ?hs5_5 ?hf5_5 ?hr5_5 ?hQ5_5 ?hy5_5 (by assumption) ?rest5_5
      case hi5_5 => simp only [List.getElem?_toArray, List.getElem?_cons_succ, List.getElem?_cons_zero] <;> rfl
      case hs5_5 => kernel_rfl
      case hf5_5 => kernel_rfl
      case hr5_5 => kernel_rfl
      case hQ5_5 => exact fun _ _ _ h => h
      case hy5_5 => exact Or.inl ⟨by rfl, fun w hSw => by have q0 := cell_only l2 hSw n1; have q1 := cell_only l3 hSw n1; have q4 := cell_only l4 hSw n1; have q8 := cell_only l8 hSw n1; have r0 := cell_only t0 hSw nT; have r1 := cell_only t1 hSw nT; have r2 := cell_only t2 hSw nT; have r3 := cell_only t3 hSw nT; have s1 := cell_only p1 hSw n2; have s2 := cell_only p2 hSw n2; go_simp <;> (try with_reducible rfl)⟩
      simp only [Act.put, List.setIfInBounds_toArray, List.set_cons_zero, List.set_cons_succ]
      refine' wpAnyH_take (i := 6) ?hi6_5 ?hs6_5 ?hf6_5 ?hr6_5 ?hQ6_5 ?hy6_5 (by assumption) ?rest6_5
      case hi6_5 => simp only [List.getElem?_toArray, List.getElem?_cons_succ, List.getElem?_cons_zero] <;> rfl
      case hs6_5 => kernel_rfl
      case hf6_5 => kernel_rfl
      case hr6_5 => kernel_rfl
      case hQ6_5 => exact fun _ _ _ h => h
      case hy6_5 => exact Or.inl ⟨by rfl, fun w hSw => by have q0 := cell_only l2 hSw n1; have q1 := cell_only l3 hSw n1; have q4 := cell_only l4 hSw n1; have q8 := cell_only l8 hSw n1; have r0 := cell_only t0 hSw nT; have r1 := cell_only t1 hSw nT; have r2 := cell_only t2 hSw nT; have r3 := cell_only t3 hSw nT; have s1 := cell_only p1 hSw n2; have s2 := cell_only p2 hSw n2; go_simp <;> (try with_reducible rfl)⟩
      simp only [Act.put, List.setIfInBounds_toArray, List.set_cons_zero, List.set_cons_succ]
      refine' wpAnyH_take (i := 7) ?hi7_5 ?hs7_5 ?hf7_5 ?hr7_5 ?hQ7_5 ?hy7_5 (by assumption) ?rest7_5
      case hi7_5 => simp only [List.getElem?_toArray, List.getElem?_cons_succ, List.getElem?_cons_zero] <;> rfl
      case hs7_5 => kernel_rfl
      case hf7_5 => kernel_rfl
      case hr7_5 => kernel_rfl
      case hQ7_5 => exact fun _ _ _ h => h
      case hy7_5 => exact Or.inl ⟨by rfl, fun w hSw => by have q0 := cell_only l2 hSw n1; have q1 := cell_only l3 hSw n1; have q4 := cell_only l4 hSw n1; have q8 := cell_only l8 hSw n1; have r0 := cell_only t0 hSw nT; have r1 := cell_only t1 hSw nT; have r2 := cell_only t2 hSw nT; have r3 := cell_only t3 hSw nT; have s1 := cell_only p1 hSw n2; have s2 := cell_only p2 hSw n2; go_simp <;> (try with_reducible rfl)⟩
      simp only [Act.put, List.setIfInBounds_toArray, List.set_cons_zero, List.set_cons_succ]
      refine' wpAnyH_take (i := 8) ?hi8_5 ?hs8_5 ?hf8_5 ?hr8_5 ?hQ8_5 ?hy8_5 (by assumption) ?rest8_5
      case hi8_5 => simp only [List.getElem?_toArray, List.getElem?_cons_succ, List.getElem?_cons_zero] <;> rfl
      case hs8_5 => kernel_rfl
      case hf8_5 => kernel_rfl
      case hr8_5 => kernel_rfl
      case hQ8_5 => exact fun _ _ _ h => h
      case hy8_5 => exact Or.inl ⟨by rfl, fun w hSw => by have q0 := cell_only l2 hSw n1; have q1 := cell_only l3 hSw n1; have q4 := cell_only l4 hSw n1; have q8 := cell_only l8 hSw n1; have r0 := cell_only t0 hSw nT; have r1 := cell_only t1 hSw nT; have r2 := cell_only t2 hSw nT; have r3 := cell_only t3 hSw nT; have s1 := cell_only p1 hSw n2; have s2 := cell_only p2 hSw n2; go_simp <;> (try with_reducible rfl)⟩
      simp only [Act.put, List.setIfInBounds_toArray, List.set_cons_zero, List.set_cons_succ]
      refine' wpAnyH_take (i := 9) ?hi9_5 ?hs9_5 ?hf9_5 ?hr9_5 ?hQ9_5 ?hy9_5 (by assumption) ?rest9_5
      case hi9_5 => simp only [List.getElem?_toArray, List.getElem?_cons_succ, List.getElem?_cons_zero] <;> rfl
      case hs9_5 => kernel_rfl
      case hf9_5 => kernel_rfl
      case hr9_5 => kernel_rfl
      case hQ9_5 => exact fun _ _ _ h => h
      case hy9_5 => exact Or.inl ⟨by rfl, fun w hSw => by have q0 := cell_only l2 hSw n1; have q1 := cell_only l3 hSw n1; have q4 := cell_only l4 hSw n1; have q8 := cell_only l8 hSw n1; have r0 := cell_only t0 hSw nT; have r1 := cell_only t1 hSw nT; have r2 := cell_only t2 hSw nT; have r3 := cell_only t3 hSw nT; have s1 := cell_only p1 hSw n2; have s2 := cell_only p2 hSw n2; go_simp <;> (try with_reducible rfl)⟩
      simp only [Act.put, List.setIfInBounds_toArray, List.set_cons_zero, List.set_cons_succ]
      refine' wpAnyH_take (i := 10) ?hi10_5 ?hs10_5 ?hf10_5 ?hr10_5 ?hQ10_5 ?hy10_5 (by assumption) ?rest10_5
      case hi10_5 => simp only [List.getElem?_toArray, List.getElem?_cons_succ, List.getElem?_cons_zero] <;> rfl
      case hs10_5 => kernel_rfl
      case hf10_5 => kernel_rfl
      case hr10_5 => kernel_rfl
      case hQ10_5 => exact fun _ _ _ h => h
      case hy10_5 => exact Or.inl ⟨by rfl, fun w hSw => by have q0 := cell_only l2 hSw n1; have q1 := cell_only l3 hSw n1; have q4 := cell_only l4 hSw n1; have q8 := cell_only l8 hSw n1; have r0 := cell_only t0 hSw nT; have r1 := cell_only t1 hSw nT; have r2 := cell_only t2 hSw nT; have r3 := cell_only t3 hSw nT; have s1 := cell_only p1 hSw n2; have s2 := cell_only p2 hSw n2; go_simp <;> (try with_reducible rfl)⟩
      simp only [Act.put, List.setIfInBounds_toArray, List.set_cons_zero, List.set_cons_succ]
      refine' wpAnyH_take (i := 11) ?hi11_5 ?hs11_5 ?hf11_5 ?hr11_5 ?hQ11_5 ?hy11_5 (by assumption) ?rest11_5
      case hi11_5 => simp only [List.getElem?_toArray, List.getElem?_cons_succ, List.getElem?_cons_zero] <;> rfl
      case hs11_5 => kernel_rfl
      case hf11_5 => kernel_rfl
      case hr11_5 => kernel_rfl
      case hQ11_5 => exact fun _ _ _ h => h
      case hy11_5 => exact Or.inl ⟨by rfl, fun w hSw => by have q0 := cell_only l2 hSw n1; have q1 := cell_only l3 hSw n1; have q4 := cell_only l4 hSw n1; have q8 := cell_only l8 hSw n1; have r0 := cell_only t0 hSw nT; have r1 := cell_only t1 hSw nT; have r2 := cell_only t2 hSw nT; have r3 := cell_only t3 hSw nT; have s1 := cell_only p1 hSw n2; have s2 := cell_only p2 hSw n2; go_simp <;> (try with_reducible rfl)⟩
      simp only [Act.put, List.setIfInBounds_toArray, List.set_cons_zero, List.set_cons_succ]
      refine' wpAnyH_take (i := 12) ?hi12_5 ?hs12_5 ?hf12_5 ?hr12_5 ?hQ12_5 ?hy12_5 (by assumption) ?rest12_5
      case hi12_5 => simp only [List.getElem?_toArray, List.getElem?_cons_succ, List.getElem?_cons_zero] <;> rfl
      case hs12_5 => kernel_rfl
      case hf12_5 => kernel_rfl
      case hr12_5 => kernel_rfl
      case hQ12_5 => exact fun _ _ _ h => h
      case hy12_5 => exact Or.inl ⟨by rfl, fun w hSw => by have q0 := cell_only l2 hSw n1; have q1 := cell_only l3 hSw n1; have q4 := cell_only l4 hSw n1; have q8 := cell_only l8 hSw n1; have r0 := cell_only t0 hSw nT; have r1 := cell_only t1 hSw nT; have r2 := cell_only t2 hSw nT; have r3 := cell_only t3 hSw nT; have s1 := cell_only p1 hSw n2; have s2 := cell_only p2 hSw n2; go_simp <;> (try with_reducible rfl)⟩
      simp only [Act.put, List.setIfInBounds_toArray, List.set_cons_zero, List.set_cons_succ]
      refine' wpAnyH_take (i := 13) ?hi13_5 ?hs13_5 ?hf13_5 ?hr13_5 ?hQ13_5 ?hy13_5 (by assumption) ?rest13_5
      case hi13_5 => simp only [List.getElem?_toArray, List.getElem?_cons_succ, List.getElem?_cons_zero] <;> rfl
      case hs13_5 => kernel_rfl
      case hf13_5 => kernel_rfl
      case hr13_5 => kernel_rfl
      case hQ13_5 => exact fun _ _ _ h => h
      case hy13_5 => exact Or.inl ⟨by rfl, fun w hSw => by have q0 := cell_only l2 hSw n1; have q1 := cell_only l3 hSw n1; have q4 := cell_only l4 hSw n1; have q8 := cell_only l8 hSw n1; have r0 := cell_only t0 hSw nT; have r1 := cell_only t1 hSw nT; have r2 := cell_only t2 hSw nT; have r3 := cell_only t3 hSw nT; have s1 := cell_only p1 hSw n2; have s2 := cell_only p2 hSw n2; go_simp <;> (try with_reducible rfl)⟩
      simp only [Act.put, List.setIfInBounds_toArray, List.set_cons_zero, List.set_cons_succ]
      refine' wpAnyH_take (i := 14) ?hi14_5 ?hs14_5 ?hf14_5 ?hr14_5 ?hQ14_5 ?hy14_5 (by assumption) ?rest14_5
      case hi14_5 => simp only [List.getElem?_toArray, List.getElem?_cons_succ, List.getElem?_cons_zero] <;> rfl
      case hs14_5 => kernel_rfl
      case hf14_5 => kernel_rfl
      case hr14_5 => kernel_rfl
      case hQ14_5 => exact fun _ _ _ h => h
      case hy14_5 => exact Or.inl ⟨by rfl, fun w hSw => by have q0 := cell_only l2 hSw n1; have q1 := cell_only l3 hSw n1; have q4 := cell_only l4 hSw n1; have q8 := cell_only l8 hSw n1; have r0 := cell_only t0 hSw nT; have r1 := cell_only t1 hSw nT; have r2 := cell_only t2 hSw nT; have r3 := cell_only t3 hSw nT; have s1 := cell_only p1 hSw n2; have s2 := cell_only p2 hSw n2; go_simp <;> (try with_reducible rfl)⟩
      simp only [Act.put, List.setIfInBounds_toArray, List.set_cons_zero, List.set_cons_succ]
      refine' wpAnyH_take (i := 15) ?hi15_5 ?hs15_5 ?hf15_5 ?hr15_5 ?hQ15_5 ?hy15_5 (by assumption) ?rest15_5
      case hi15_5 => simp only [List.getElem?_toArray, List.getElem?_cons_succ, List.getElem?_cons_zero] <;> rfl
      case hs15_5 => kernel_rfl
      case hf15_5 => kernel_rfl
      case hr15_5 => kernel_rfl
      case hQ15_5 => exact fun _ _ _ h => h
      case hy15_5 => exact Or.inl ⟨by rfl, fun w hSw => by have q0 := cell_only l2 hSw n1; have q1 := cell_only l3 hSw n1; have q4 := cell_only l4 hSw n1; have q8 := cell_only l8 hSw n1; have r0 := cell_only t0 hSw nT; have r1 := cell_only t1 hSw nT; have r2 := cell_only t2 hSw nT; have r3 := cell_only t3 hSw nT; have s1 := cell_only p1 hSw n2; have s2 := cell_only p2 hSw n2; go_simp <;> (try with_reducible rfl)⟩
      simp only [Act.put, List.setIfInBounds_toArray, List.set_cons_zero, List.set_cons_succ]
      refine' wpAnyH_take (i := 16) ?hi16_5 ?hs16_5 ?hf16_5 ?hr16_5 ?hQ16_5 ?hy16_5 (by assumption) ?rest16_5
      case hi16_5 => simp only [List.getElem?_toArray, List.getElem?_cons_succ, List.getElem?_cons_zero] <;> rfl
      case hs16_5 => kernel_rfl
      case hf16_5 => kernel_rfl
      case hr16_5 => kernel_rfl
      case hQ16_5 => exact fun _ _ _ h => h
      case hy16_5 => exact Or.inl ⟨by rfl, fun w hSw => by have q0 := cell_only l2 hSw n1; have q1 := cell_only l3 hSw n1; have q4 := cell_only l4 hSw n1; have q8 := cell_only l8 hSw n1; have r0 := cell_only t0 hSw nT; have r1 := cell_only t1 hSw nT; have r2 := cell_only t2 hSw nT; have r3 := cell_only t3 hSw nT; have s1 := cell_only p1 hSw n2; have s2 := cell_only p2 hSw n2; go_simp <;> (try with_reducible rfl)⟩
      simp only [Act.put, List.setIfInBounds_toArray, List.set_cons_zero, List.set_cons_succ]
      refine' wpAnyH_take (i := 17) ?hi17_5 ?hs17_5 ?hf17_5 ?hr17_5 ?hQ17_5 ?hy17_5 (by assumption) ?rest17_5
      case hi17_5 => simp only [List.getElem?_toArray, List.getElem?_cons_succ, List.getElem?_cons_zero] <;> rfl
      case hs17_5 => kernel_rfl
      case hf17_5 => kernel_rfl
      case hr17_5 => kernel_rfl
      case hQ17_5 => exact fun _ _ _ h => h
      case hy17_5 => exact Or.inl ⟨by rfl, fun w hSw => by have q0 := cell_only l2 hSw n1; have q1 := cell_only l3 hSw n1; have q4 := cell_only l4 hSw n1; have q8 := cell_only l8 hSw n1; have r0 := cell_only t0 hSw nT; have r1 := cell_only t1 hSw nT; have r2 := cell_only t2 hSw nT; have r3 := cell_only t3 hSw nT; have s1 := cell_only p1 hSw n2; have s2 := cell_only p2 hSw n2; go_simp <;> (try with_reducible rfl)⟩
      simp only [Act.put, List.setIfInBounds_toArray, List.set_cons_zero, List.set_cons_succ]
      refine' wpAnyH_take (i := 18) ?hi18_5 ?hs18_5 ?hf18_5 ?hr18_5 ?hQ18_5 ?hy18_5 (by assumption) ?rest18_5
      case hi18_5 => simp only [List.getElem?_toArray, List.getElem?_cons_succ, List.getElem?_cons_zero] <;> rfl
      case hs18_5 => kernel_rfl
      case hf18_5 => kernel_rfl
      case hr18_5 => kernel_rfl
      case hQ18_5 => exact fun _ _ _ h => h
      case hy18_5 => exact Or.inl ⟨by rfl, fun w hSw => by have q0 := cell_only l2 hSw n1; have q1 := cell_only l3 hSw n1; have q4 := cell_only l4 hSw n1; have q8 := cell_only l8 hSw n1; have r0 := cell_only t0 hSw nT; have r1 := cell_only t1 hSw nT; have r2 := cell_only t2 hSw nT; have r3 := cell_only t3 hSw nT; have s1 := cell_only p1 hSw n2; have s2 := cell_only p2 hSw n2; go_simp <;> (try with_reducible rfl)⟩
      simp only [Act.put, List.setIfInBounds_toArray, List.set_cons_zero, List.set_cons_succ]
      refine' wpAnyH_take (i := 19) ?hi19_5 ?hs19_5 ?hf19_5 ?hr19_5 ?hQ19_5 ?hy19_5 (by assumption) ?rest19_5
      case hi19_5 => simp only [List.getElem?_toArray, List.getElem?_cons_succ, List.getElem?_cons_zero] <;> rfl
      case hs19_5 => kernel_rfl
      case hf19_5 => kernel_rfl
      case hr19_5 => kernel_rfl
      case hQ19_5 => exact fun _ _ _ h => h
      case hy19_5 => exact Or.inl ⟨by rfl, fun w hSw => by have q0 := cell_only l2 hSw n1; have q1 := cell_only l3 hSw n1; have q4 := cell_only l4 hSw n1; have q8 := cell_only l8 hSw n1; have r0 := cell_only t0 hSw nT; have r1 := cell_only t1 hSw nT; have r2 := cell_only t2 hSw nT; have r3 := cell_only t3 hSw nT; have s1 := cell_only p1 hSw n2; have s2 := cell_only p2 hSw n2; go_simp <;> (try with_reducible rfl)⟩
      simp only [Act.put, List.setIfInBounds_toArray, List.set_cons_zero, List.set_cons_succ]
      refine' wpAnyH_take (i := 20) ?hi20_5 ?hs20_5 ?hf20_5 ?hr20_5 ?hQ20_5 ?hy20_5 (by assumption) ?rest20_5
      case hi20_5 => simp only [List.getElem?_toArray, List.getElem?_cons_succ, List.getElem?_cons_zero] <;> rfl
      case hs20_5 => kernel_rfl
      case hf20_5 => kernel_rfl
      case hr20_5 => kernel_rfl
      case hQ20_5 => exact fun _ _ _ h => h
      case hy20_5 => exact Or.inl ⟨by rfl, fun w hSw => by have q0 := cell_only l2 hSw n1; have q1 := cell_only l3 hSw n1; have q4 := cell_only l4 hSw n1; have q8 := cell_only l8 hSw n1; have r0 := cell_only t0 hSw nT; have r1 := cell_only t1 hSw nT; have r2 := cell_only t2 hSw nT; have r3 := cell_only t3 hSw nT; have s1 := cell_only p1 hSw n2; have s2 := cell_only p2 hSw n2; go_simp <;> (try with_reducible rfl)⟩
      simp only [Act.put, List.setIfInBounds_toArray, List.set_cons_zero, List.set_cons_succ]
      refine' wpAnyH_take (i := 21) ?hi21_5 ?hs21_5 ?hf21_5 ?hr21_5 ?hQ21_5 ?hy21_5 (by assumption) ?rest21_5
      case hi21_5 => simp only [List.getElem?_toArray, List.getElem?_cons_succ, List.getElem?_cons_zero] <;> rfl
      case hs21_5 => kernel_rfl
      case hf21_5 => kernel_rfl
      case hr21_5 => kernel_rfl
      case hQ21_5 => exact fun _ _ _ h => h
      case hy21_5 => exact Or.inl ⟨by rfl, fun w hSw => by have q0 := cell_only l2 hSw n1; have q1 := cell_only l3 hSw n1; have q4 := cell_only l4 hSw n1; have q8 := cell_only l8 hSw n1; have r0 := cell_only t0 hSw nT; have r1 := cell_only t1 hSw nT; have r2 := cell_only t2 hSw nT; have r3 := cell_only t3 hSw nT; have s1 := cell_only p1 hSw n2; have s2 := cell_only p2 hSw n2; go_simp <;> (try with_reducible rfl)⟩
      simp only [Act.put, List.setIfInBounds_toArray, List.set_cons_zero, List.set_cons_succ]
      refine wpAnyH_ready (rs := [22]) (by kernel_rfl) (by simp) ?_
      refine AllReadyH.cons rfl (fun K hK => ?_) AllReadyH.nil
      go_simp
      with_reducible refine Calls.mono (HLy.out _ (Touch.drew K3) hTh) ?_
      rintro e w4 ⟨rfl, hS4, o4⟩
      go_wp2_with fail
      refine hK.out _ _ (hHeld.trans_ o4) (fun hHeld => ?_)
      clear hK K
      refine' wpAnyH_take (i := 23) ?hi23_5 ?hs23_5 ?hf23_5 ?hr23_5 ?hQ23_5 ?hy23_5 (by assumption) ?rest23_5
      case hi23_5 => simp only [List.getElem?_toArray, List.getElem?_cons_succ, List.getElem?_cons_zero] <;> rfl
      case hs23_5 => kernel_rfl
      case hf23_5 => kernel_rfl
      case hr23_5 => kernel_rfl
      case hQ23_5 => exact fun _ _ _ h => h
      case hy23_5 => exact Or.inl ⟨by rfl, fun w hSw => by go_simp <;> (try with_reducible rfl)⟩
      simp only [Act.put, List.setIfInBounds_toArray, List.set_cons_zero, List.set_cons_succ]
      refine' wpAnyH_take (i := 24) ?hi24_5 ?hs24_5 ?hf24_5 ?hr24_5 ?hQ24_5 ?hy24_5 (by assumption) ?rest24_5
      case hi24_5 => simp only [List.getElem?_toArray, List.getElem?_cons_succ, List.getElem?_cons_zero] <;> rfl
      case hs24_5 => kernel_rfl
      case hf24_5 => kernel_rfl
      case hr24_5 => kernel_rfl
      case hQ24_5 => exact fun _ _ _ h => h
      case hy24_5 => exact Or.inl ⟨by rfl, fun w hSw => by go_simp <;> (try with_reducible rfl)⟩
      simp only [Act.put, List.setIfInBounds_toArray, List.set_cons_zero, List.set_cons_succ]
      refine wpAnyH_done (by kernel_rfl) ?_ _
      refine NoPanic.normal ?_
      have OT : Only bw w w4 := Touch.trans (Touch.only K3) hHeld (fun x hx _ => hx)
      have HA4 := Lib.hid (HLa.out hTh)
      clear HLa HLy HG
      have hO4 : Only bw w3 w4 := hHeld
      have z34 := hO4.size
      have l2 := cell_only l2 hO4 n1
      have l3 := cell_only l3 hO4 n1
      have l4 := cell_only l4 hO4 n1
      have l8 := cell_only l8 hO4 n1
      have t0 := cell_only t0 hO4 nT
      have t1 := cell_only t1 hO4 nT
      have t2 := cell_only t2 hO4 nT
      have t3 := cell_only t3 hO4 nT
      have p1 := cell_only p1 hO4 n2
      have p2 := cell_only p2 hO4 n2
      have BT4 := BT3.touch hO4 nT
      have z4 := OT.size
      clear BT3 hHeld o4
      obtain ⟨fin, hfin⟩ : ∃ fin : Bool, fin = (C ((c : Int) - 1).toNat).fin := ⟨_, rfl⟩
      rw [← hfin] at hS4 HA4 HOk
      obtain ⟨fl, hfl⟩ : ∃ fl : Nat → Int, fl = layF f tt wd (layW c fin) len := ⟨_, rfl⟩
      rw [← hfl] at hS4
      rw [← hfl] at HA4
      have hobj : objP (atT n fl m C tt) = (⟨⟨c, 0, 0, false, fin, false⟩, r, d, wd⟩, 0) := by
        rw [objP_obj (by rw [HA4.out]) (by rw [HA4.out]; show ((c : Int) != 0) = true; simp; omega)]
        exact HA4.out
      have HHd := Lib.hid (show ∀ w', Keeps w4 w' → Calls Tryz.prog 58 #[.agg #[.pointer (some ⟨ba, 0, none⟩), .pointer (some ⟨bt, 0, none⟩)], .int .i64 tt] w' fun e w2 => e = .returned (.tuple #[.agg #[.int .i64 c, .int .i64 0, .int .i64 0, .bool false, .bool fin, .bool false], .int .i64 0]) ∧ Keeps w' w2 from fun w' kk => by
        have hh := ohead_any ba bw n fl bt A m cap C w' (hS4.keep kk) tt
        rw [hobj] at hh
        exact hh)
      have HFl := Lib.hid hfl
      have HS4 := Lib.hid hS4
      have HObj := Lib.hid hobj
      clear hfl hS4 hobj hfin
      have hzh := zero_hd
      go_wp2_with fail
      go_cut [13, 14] from 127 to 139 (fun v _ wx => ∃ hb, v = .pointer (some ⟨hb, 0, none⟩) ∧ BL wx hb 123 [.int .i64 c, .int .i64 0, .int .i64 0, .bool false, .bool fin, .bool false] ∧ w4.heap.size ≤ hb ∧ Keeps w4 wx)
      case first =>
        clear HS4 HAt HN HBh HI HSt HA4
        refine wp_region_noPanic ?_
        refine wp_region_held_drew (S := (fun w' => Keeps w4 w')) (by kernel_rfl) (Touch.refl _ w4).drew (fun hHeld => ?_)
        refine' wpAnyH_take (i := 0) ?hi0_7 ?hs0_7 ?hf0_7 ?hr0_7 ?hQ0_7 ?hy0_7 (by assumption) ?rest0_7
        case hi0_7 => simp only [List.getElem?_toArray, List.getElem?_cons_zero] <;> rfl
        case hs0_7 => kernel_rfl
        case hf0_7 => kernel_rfl
        case hr0_7 => kernel_rfl
        case hQ0_7 => exact fun _ _ _ h => h
        case hy0_7 => exact Or.inl ⟨by rfl, fun w hSw => by have q0 := cell_keep l2 hSw; have q1 := cell_keep l3 hSw; have q4 := cell_keep l4 hSw; have q8 := cell_keep l8 hSw; have r0 := cell_keep t0 hSw; have r1 := cell_keep t1 hSw; have r2 := cell_keep t2 hSw; have r3 := cell_keep t3 hSw; have s1 := cell_keep p1 hSw; have s2 := cell_keep p2 hSw; go_simp <;> (try with_reducible rfl)⟩
        simp only [Act.put, List.setIfInBounds_toArray, List.set_cons_zero, List.set_cons_succ]
        refine' wpAnyH_take (i := 1) ?hi1_7 ?hs1_7 ?hf1_7 ?hr1_7 ?hQ1_7 ?hy1_7 (by assumption) ?rest1_7
        case hi1_7 => simp only [List.getElem?_toArray, List.getElem?_cons_succ, List.getElem?_cons_zero] <;> rfl
        case hs1_7 => kernel_rfl
        case hf1_7 => kernel_rfl
        case hr1_7 => kernel_rfl
        case hQ1_7 => exact fun _ _ _ h => h
        case hy1_7 => exact Or.inl ⟨by rfl, fun w hSw => by have q0 := cell_keep l2 hSw; have q1 := cell_keep l3 hSw; have q4 := cell_keep l4 hSw; have q8 := cell_keep l8 hSw; have r0 := cell_keep t0 hSw; have r1 := cell_keep t1 hSw; have r2 := cell_keep t2 hSw; have r3 := cell_keep t3 hSw; have s1 := cell_keep p1 hSw; have s2 := cell_keep p2 hSw; go_simp <;> (try with_reducible rfl)⟩
        simp only [Act.put, List.setIfInBounds_toArray, List.set_cons_zero, List.set_cons_succ]
        refine' wpAnyH_take (i := 2) ?hi2_7 ?hs2_7 ?hf2_7 ?hr2_7 ?hQ2_7 ?hy2_7 (by assumption) ?rest2_7
        case hi2_7 => simp only [List.getElem?_toArray, List.getElem?_cons_succ, List.getElem?_cons_zero] <;> rfl
        case hs2_7 => kernel_rfl
        case hf2_7 => kernel_rfl
        case hr2_7 => kernel_rfl
        case hQ2_7 => exact fun _ _ _ h => h
        case hy2_7 => exact Or.inl ⟨by rfl, fun w hSw => by have q0 := cell_keep l2 hSw; have q1 := cell_keep l3 hSw; have q4 := cell_keep l4 hSw; have q8 := cell_keep l8 hSw; have r0 := cell_keep t0 hSw; have r1 := cell_keep t1 hSw; have r2 := cell_keep t2 hSw; have r3 := cell_keep t3 hSw; have s1 := cell_keep p1 hSw; have s2 := cell_keep p2 hSw; go_simp <;> (try with_reducible rfl)⟩
        simp only [Act.put, List.setIfInBounds_toArray, List.set_cons_zero, List.set_cons_succ]
        refine' wpAnyH_take (i := 3) ?hi3_7 ?hs3_7 ?hf3_7 ?hr3_7 ?hQ3_7 ?hy3_7 (by assumption) ?rest3_7
        case hi3_7 => simp only [List.getElem?_toArray, List.getElem?_cons_succ, List.getElem?_cons_zero] <;> rfl
        case hs3_7 => kernel_rfl
        case hf3_7 => kernel_rfl
        case hr3_7 => kernel_rfl
        case hQ3_7 => exact fun _ _ _ h => h
        case hy3_7 => exact Or.inl ⟨by rfl, fun w hSw => by have q0 := cell_keep l2 hSw; have q1 := cell_keep l3 hSw; have q4 := cell_keep l4 hSw; have q8 := cell_keep l8 hSw; have r0 := cell_keep t0 hSw; have r1 := cell_keep t1 hSw; have r2 := cell_keep t2 hSw; have r3 := cell_keep t3 hSw; have s1 := cell_keep p1 hSw; have s2 := cell_keep p2 hSw; go_simp <;> (try with_reducible rfl)⟩
        simp only [Act.put, List.setIfInBounds_toArray, List.set_cons_zero, List.set_cons_succ]
        refine' wpAnyH_take (i := 4) ?hi4_7 ?hs4_7 ?hf4_7 ?hr4_7 ?hQ4_7 ?hy4_7 (by assumption) ?rest4_7
        case hi4_7 => simp only [List.getElem?_toArray, List.getElem?_cons_succ, List.getElem?_cons_zero] <;> rfl
        case hs4_7 => kernel_rfl
        case hf4_7 => kernel_rfl
        case hr4_7 => kernel_rfl
        case hQ4_7 => exact fun _ _ _ h => h
        case hy4_7 => exact Or.inl ⟨by rfl, fun w hSw => by have q0 := cell_keep l2 hSw; have q1 := cell_keep l3 hSw; have q4 := cell_keep l4 hSw; have q8 := cell_keep l8 hSw; have r0 := cell_keep t0 hSw; have r1 := cell_keep t1 hSw; have r2 := cell_keep t2 hSw; have r3 := cell_keep t3 hSw; have s1 := cell_keep p1 hSw; have s2 := cell_keep p2 hSw; go_simp <;> (try with_reducible rfl)⟩
        simp only [Act.put, List.setIfInBounds_toArray, List.set_cons_zero, List.set_cons_succ]
        refine' wpAnyH_take (i := 5) ?hi5_7 ?hs5_7 ?hf5_7 ?hr5_7 ?hQ5_7 ?hy5_7 (by assumption) ?rest5_7
        case hi5_7 => simp only [List.getElem?_toArray, List.getElem?_cons_succ, List.getElem?_cons_zero] <;> rfl
        case hs5_7 => kernel_rfl
        case hf5_7 => kernel_rfl
        case hr5_7 => kernel_rfl
        case hQ5_7 => exact fun _ _ _ h => h
        case hy5_7 => exact Or.inl ⟨by rfl, fun w hSw => by have q0 := cell_keep l2 hSw; have q1 := cell_keep l3 hSw; have q4 := cell_keep l4 hSw; have q8 := cell_keep l8 hSw; have r0 := cell_keep t0 hSw; have r1 := cell_keep t1 hSw; have r2 := cell_keep t2 hSw; have r3 := cell_keep t3 hSw; have s1 := cell_keep p1 hSw; have s2 := cell_keep p2 hSw; go_simp <;> (try with_reducible rfl)⟩
        simp only [Act.put, List.setIfInBounds_toArray, List.set_cons_zero, List.set_cons_succ]
        refine' wpAnyH_take (i := 6) ?hi6_7 ?hs6_7 ?hf6_7 ?hr6_7 ?hQ6_7 ?hy6_7 (by assumption) ?rest6_7
        case hi6_7 => simp only [List.getElem?_toArray, List.getElem?_cons_succ, List.getElem?_cons_zero] <;> rfl
        case hs6_7 => kernel_rfl
        case hf6_7 => kernel_rfl
        case hr6_7 => kernel_rfl
        case hQ6_7 => exact fun _ _ _ h => h
        case hy6_7 => exact Or.inl ⟨by rfl, fun w hSw => by have q0 := cell_keep l2 hSw; have q1 := cell_keep l3 hSw; have q4 := cell_keep l4 hSw; have q8 := cell_keep l8 hSw; have r0 := cell_keep t0 hSw; have r1 := cell_keep t1 hSw; have r2 := cell_keep t2 hSw; have r3 := cell_keep t3 hSw; have s1 := cell_keep p1 hSw; have s2 := cell_keep p2 hSw; go_simp <;> (try with_reducible rfl)⟩
        simp only [Act.put, List.setIfInBounds_toArray, List.set_cons_zero, List.set_cons_succ]
        refine' wpAnyH_take (i := 7) ?hi7_7 ?hs7_7 ?hf7_7 ?hr7_7 ?hQ7_7 ?hy7_7 (by assumption) ?rest7_7
        case hi7_7 => simp only [List.getElem?_toArray, List.getElem?_cons_succ, List.getElem?_cons_zero] <;> rfl
        case hs7_7 => kernel_rfl
        case hf7_7 => kernel_rfl
        case hr7_7 => kernel_rfl
        case hQ7_7 => exact fun _ _ _ h => h
        case hy7_7 => exact Or.inl ⟨by rfl, fun w hSw => by have q0 := cell_keep l2 hSw; have q1 := cell_keep l3 hSw; have q4 := cell_keep l4 hSw; have q8 := cell_keep l8 hSw; have r0 := cell_keep t0 hSw; have r1 := cell_keep t1 hSw; have r2 := cell_keep t2 hSw; have r3 := cell_keep t3 hSw; have s1 := cell_keep p1 hSw; have s2 := cell_keep p2 hSw; go_simp <;> (try with_reducible rfl)⟩
        simp only [Act.put, List.setIfInBounds_toArray, List.set_cons_zero, List.set_cons_succ]
        refine wpAnyH_ready (rs := [8, 12]) (by kernel_rfl) (by simp) ?_
        refine (AllReadyH.cons rfl (fun K hK => ?_) (AllReadyH.cons rfl (fun K hK => ?_) AllReadyH.nil))
        · go_simp
          with_reducible refine Calls.mono (HHd.out _ hHeld) ?_
          rintro e w5 ⟨rfl, k5⟩
          go_wp2_with fail
          have hHeld5 := Keeps.trans hHeld k5
          refine hK.out _ _ hHeld5 (fun hHeld => ?_)
          clear hK K
          refine' wpAnyH_take (i := 9) ?hi9_8 ?hs9_8 ?hf9_8 ?hr9_8 ?hQ9_8 ?hy9_8 (by assumption) ?rest9_8
          case hi9_8 => simp only [List.getElem?_toArray, List.getElem?_cons_succ, List.getElem?_cons_zero] <;> rfl
          case hs9_8 => kernel_rfl
          case hf9_8 => kernel_rfl
          case hr9_8 => kernel_rfl
          case hQ9_8 => exact fun _ _ _ h => h
          case hy9_8 => exact Or.inl ⟨by rfl, fun w hSw => by go_simp <;> (try with_reducible rfl)⟩
          simp only [Act.put, List.setIfInBounds_toArray, List.set_cons_zero, List.set_cons_succ]
          refine' wpAnyH_take (i := 10) ?hi10_8 ?hs10_8 ?hf10_8 ?hr10_8 ?hQ10_8 ?hy10_8 (by assumption) ?rest10_8
          case hi10_8 => simp only [List.getElem?_toArray, List.getElem?_cons_succ, List.getElem?_cons_zero] <;> rfl
          case hs10_8 => kernel_rfl
          case hf10_8 => kernel_rfl
          case hr10_8 => kernel_rfl
          case hQ10_8 => exact fun _ _ _ h => h
          case hy10_8 => exact Or.inl ⟨by rfl, fun w hSw => by go_simp <;> (try with_reducible rfl)⟩
          simp only [Act.put, List.setIfInBounds_toArray, List.set_cons_zero, List.set_cons_succ]
          refine' wpAnyH_take (i := 11) ?hi11_8 ?hs11_8 ?hf11_8 ?hr11_8 ?hQ11_8 ?hy11_8 (by assumption) ?rest11_8
          case hi11_8 => simp only [List.getElem?_toArray, List.getElem?_cons_succ, List.getElem?_cons_zero] <;> rfl
          case hs11_8 => kernel_rfl
          case hf11_8 => kernel_rfl
          case hr11_8 => kernel_rfl
          case hQ11_8 => exact fun _ _ _ h => h
          case hy11_8 => exact Or.inl ⟨by rfl, fun w hSw => by go_simp <;> (try with_reducible rfl)⟩
          simp only [Act.put, List.setIfInBounds_toArray, List.set_cons_zero, List.set_cons_succ]
          refine wpAnyH_ready (rs := [12]) (by kernel_rfl) (by simp) ?_
          refine (AllReadyH.cons rfl (fun K hK => ?_) AllReadyH.nil)
          go_simp
          refine hK.out _ _ (Touch.alloc hHeld5 _) (fun hHeld => ?_)
          clear hK K
          refine wpAnyH_ready (rs := [13]) (by kernel_rfl) (by simp) ?_
          refine (AllReadyH.cons rfl (fun K hK => ?_) AllReadyH.nil)
          go_simp
          refine hK.out _ _ (Touch.alloc hHeld5 _) (fun hHeld => ?_)
          clear hK K
          refine' wpAnyH_take (i := 14) ?hi14_9 ?hs14_9 ?hf14_9 ?hr14_9 ?hQ14_9 ?hy14_9 (by assumption) ?rest14_9
          case hi14_9 => simp only [List.getElem?_toArray, List.getElem?_cons_succ, List.getElem?_cons_zero] <;> rfl
          case hs14_9 => kernel_rfl
          case hf14_9 => kernel_rfl
          case hr14_9 => kernel_rfl
          case hQ14_9 => exact fun _ _ _ h => h
          case hy14_9 => exact Or.inl ⟨by rfl, fun w hSw => by go_simp <;> (try with_reducible rfl)⟩
          simp only [Act.put, List.setIfInBounds_toArray, List.set_cons_zero, List.set_cons_succ]
          refine wpAnyH_done (by kernel_rfl) ?_ _
          refine NoPanic.normal ?_
          go_wp2_with fail
          go_meet
          exact ⟨w5.heap.size, rfl, BL.new1 w5 123 _ [.int .i64 c, .int .i64 0, .int .i64 0, .bool false, .bool fin, .bool false] _ rfl rfl, hHeld5.size, hHeld⟩
        · go_simp
          have ka : Keeps w4 ((w4.drew).alloc (.cells (#[.int .i64 0, .int .i64 0, .int .i64 0, .bool false, .bool false, .bool false]) 123)) := Touch.alloc hHeld _
          have B0 : BL ((w4.drew).alloc (.cells (#[.int .i64 0, .int .i64 0, .int .i64 0, .bool false, .bool false, .bool false]) 123)) w4.heap.size 123 [.int .i64 0, .int .i64 0, .int .i64 0, .bool false, .bool false, .bool false] := BL.new1 _ _ _ [.int .i64 0, .int .i64 0, .int .i64 0, .bool false, .bool false, .bool false] _ rfl rfl
          refine hK.out _ _ ka (fun hHeld => ?_)
          clear hK K
          refine wpAnyH_ready (rs := [8]) (by kernel_rfl) (by simp) ?_
          refine (AllReadyH.cons rfl (fun K hK => ?_) AllReadyH.nil)
          go_simp
          with_reducible refine Calls.mono (HHd.out _ hHeld) ?_
          rintro e w5 ⟨rfl, k5⟩
          go_wp2_with fail
          have hHeld5 := Keeps.trans hHeld k5
          refine hK.out _ _ hHeld5 (fun hHeld => ?_)
          clear hK K
          refine' wpAnyH_take (i := 9) ?hi9_10 ?hs9_10 ?hf9_10 ?hr9_10 ?hQ9_10 ?hy9_10 (by assumption) ?rest9_10
          case hi9_10 => simp only [List.getElem?_toArray, List.getElem?_cons_succ, List.getElem?_cons_zero] <;> rfl
          case hs9_10 => kernel_rfl
          case hf9_10 => kernel_rfl
          case hr9_10 => kernel_rfl
          case hQ9_10 => exact fun _ _ _ h => h
          case hy9_10 => exact Or.inl ⟨by rfl, fun w hSw => by go_simp <;> (try with_reducible rfl)⟩
          simp only [Act.put, List.setIfInBounds_toArray, List.set_cons_zero, List.set_cons_succ]
          refine' wpAnyH_take (i := 10) ?hi10_10 ?hs10_10 ?hf10_10 ?hr10_10 ?hQ10_10 ?hy10_10 (by assumption) ?rest10_10
          case hi10_10 => simp only [List.getElem?_toArray, List.getElem?_cons_succ, List.getElem?_cons_zero] <;> rfl
          case hs10_10 => kernel_rfl
          case hf10_10 => kernel_rfl
          case hr10_10 => kernel_rfl
          case hQ10_10 => exact fun _ _ _ h => h
          case hy10_10 => exact Or.inl ⟨by rfl, fun w hSw => by go_simp <;> (try with_reducible rfl)⟩
          simp only [Act.put, List.setIfInBounds_toArray, List.set_cons_zero, List.set_cons_succ]
          refine' wpAnyH_take (i := 11) ?hi11_10 ?hs11_10 ?hf11_10 ?hr11_10 ?hQ11_10 ?hy11_10 (by assumption) ?rest11_10
          case hi11_10 => simp only [List.getElem?_toArray, List.getElem?_cons_succ, List.getElem?_cons_zero] <;> rfl
          case hs11_10 => kernel_rfl
          case hf11_10 => kernel_rfl
          case hr11_10 => kernel_rfl
          case hQ11_10 => exact fun _ _ _ h => h
          case hy11_10 => exact Or.inl ⟨by rfl, fun w hSw => by go_simp <;> (try with_reducible rfl)⟩
          simp only [Act.put, List.setIfInBounds_toArray, List.set_cons_zero, List.set_cons_succ]
          refine wpAnyH_ready (rs := [13]) (by kernel_rfl) (by simp) ?_
          refine (AllReadyH.cons rfl (fun K hK => ?_) AllReadyH.nil)
          rw [if_pos (show Region.wanted _ _ = true from rfl)]
          refine wp_store_bl 123 (.tmp 13) (.tmp 137) rfl (BL.keep B0 k5) rfl [.int .i64 c, .int .i64 0, .int .i64 0, .bool false, .bool fin, .bool false] rfl sz_hd rfl rfl ?_
          intro X BX kX
          refine hK.out _ _ (Touch.new hHeld5 kX (Nat.le_refl _)) (fun hHeld => ?_)
          clear hK K
          simp only [Act.put, List.setIfInBounds_toArray, List.set_cons_zero, List.set_cons_succ]
          refine' wpAnyH_take (i := 14) ?hi14_11 ?hs14_11 ?hf14_11 ?hr14_11 ?hQ14_11 ?hy14_11 (by assumption) ?rest14_11
          case hi14_11 => simp only [List.getElem?_toArray, List.getElem?_cons_succ, List.getElem?_cons_zero] <;> rfl
          case hs14_11 => kernel_rfl
          case hf14_11 => kernel_rfl
          case hr14_11 => kernel_rfl
          case hQ14_11 => exact fun _ _ _ h => h
          case hy14_11 => exact Or.inl ⟨by rfl, fun w hSw => by go_simp <;> (try with_reducible rfl)⟩
          simp only [Act.put, List.setIfInBounds_toArray, List.set_cons_zero, List.set_cons_succ]
          refine wpAnyH_done (by kernel_rfl) ?_ _
          refine NoPanic.normal ?_
          go_wp2_with fail
          go_meet
          exact ⟨w4.heap.size, rfl, BX, Nat.le_refl _, hHeld⟩
      case rest =>
      obtain ⟨w5, rfl⟩ : ∃ w5 : World, w5 = wc := ⟨_, rfl⟩
      obtain ⟨hb, rfl, B5, hhb, k5⟩ := hcut
      clear HHd
      have l2 := cell_keep l2 k5
      have l3 := cell_keep l3 k5
      have l4 := cell_keep l4 k5
      have l8 := cell_keep l8 k5
      have t0 := cell_keep t0 k5
      have t1 := cell_keep t1 k5
      have t2 := cell_keep t2 k5
      have t3 := cell_keep t3 k5
      have p1 := cell_keep p1 k5
      have p2 := cell_keep p2 k5
      have OT5 : Only bw w w5 := Touch.keep OT k5
      have z5 := OT5.size
      have HS5 := Lib.hid (HS4.out.keep k5)
      have nTh : w.heap.size ≠ hb := by omega
      have nXh : xb ≠ hb := by omega
      have nGh : gs ≠ hb := by omega
      have hhl := B5.lt
      have d8 : da.tmod 8 = da % 8 := Int.tmod_eq_emod_of_nonneg hd0
      obtain ⟨ag, hag⟩ : ∃ ag : Int, da % 8 = ag := ⟨_, rfl⟩
      rw [hag] at d8
      have hag8 : 0 ≤ ag ∧ ag < 8 := by omega
      clear HS4 hag
      go_wp2_with fail
      go_cut [] from 139 to 147 (fun wx => BL wx hb 123 [.int .i64 c, .int .i64 ag, .int .i64 0, .bool st, .bool fin, .bool false] ∧ Only hb w5 wx)
      case first =>
        have h1 := B5.c 1 _ rfl
        have h3 := B5.c 3 _ rfl
        have fz1 := B5.fz 1
        have fz3 := B5.fz 3
        clear HAt HN HBh HI HSt HA4 HS5
        refine wp_region_noPanic ?_
        refine wp_region_held_drew (S := (fun w' => Only hb w5 w')) (by kernel_rfl) (Only.refl _ w5).drew (fun hHeld => ?_)
        refine' wpAnyH_take (i := 0) ?hi0_12 ?hs0_12 ?hf0_12 ?hr0_12 ?hQ0_12 ?hy0_12 (by assumption) ?rest0_12
        case hi0_12 => simp only [List.getElem?_toArray, List.getElem?_cons_zero] <;> rfl
        case hs0_12 => kernel_rfl
        case hf0_12 => kernel_rfl
        case hr0_12 => kernel_rfl
        case hQ0_12 => exact fun _ _ _ h => h
        case hy0_12 => exact Or.inl ⟨by rfl, fun w hSw => by have q1 := cell_only t1 hSw nTh; have q3 := cell_only t3 hSw nTh; go_simp <;> (try with_reducible rfl)⟩
        simp only [Act.put, List.setIfInBounds_toArray, List.set_cons_zero, List.set_cons_succ]
        refine' wpAnyH_take (i := 1) ?hi1_12 ?hs1_12 ?hf1_12 ?hr1_12 ?hQ1_12 ?hy1_12 (by assumption) ?rest1_12
        case hi1_12 => simp only [List.getElem?_toArray, List.getElem?_cons_succ, List.getElem?_cons_zero] <;> rfl
        case hs1_12 => kernel_rfl
        case hf1_12 => kernel_rfl
        case hr1_12 => kernel_rfl
        case hQ1_12 => exact fun _ _ _ h => h
        case hy1_12 => exact Or.inl ⟨by rfl, fun w hSw => by have q1 := cell_only t1 hSw nTh; have q3 := cell_only t3 hSw nTh; go_simp <;> (try with_reducible rfl)⟩
        simp only [Act.put, List.setIfInBounds_toArray, List.set_cons_zero, List.set_cons_succ]
        refine' wpAnyH_take (i := 2) ?hi2_12 ?hs2_12 ?hf2_12 ?hr2_12 ?hQ2_12 ?hy2_12 (by assumption) ?rest2_12
        case hi2_12 => simp only [List.getElem?_toArray, List.getElem?_cons_succ, List.getElem?_cons_zero] <;> rfl
        case hs2_12 => kernel_rfl
        case hf2_12 => kernel_rfl
        case hr2_12 => kernel_rfl
        case hQ2_12 => exact fun _ _ _ h => h
        case hy2_12 => exact Or.inl ⟨by rfl, fun w hSw => by have q1 := cell_only t1 hSw nTh; have q3 := cell_only t3 hSw nTh; go_simp <;> (try with_reducible rfl)⟩
        simp only [Act.put, List.setIfInBounds_toArray, List.set_cons_zero, List.set_cons_succ]
        refine' wpAnyH_take (i := 3) ?hi3_12 ?hs3_12 ?hf3_12 ?hr3_12 ?hQ3_12 ?hy3_12 (by assumption) ?rest3_12
        case hi3_12 => simp only [List.getElem?_toArray, List.getElem?_cons_succ, List.getElem?_cons_zero] <;> rfl
        case hs3_12 => kernel_rfl
        case hf3_12 => kernel_rfl
        case hr3_12 => kernel_rfl
        case hQ3_12 => exact fun _ _ _ h => h
        case hy3_12 => exact Or.inl ⟨by rfl, fun w hSw => by have q1 := cell_only t1 hSw nTh; have q3 := cell_only t3 hSw nTh; go_simp <;> (try with_reducible rfl)⟩
        simp only [Act.put, List.setIfInBounds_toArray, List.set_cons_zero, List.set_cons_succ]
        refine' wpAnyH_take (i := 4) ?hi4_12 ?hs4_12 ?hf4_12 ?hr4_12 ?hQ4_12 ?hy4_12 (by assumption) ?rest4_12
        case hi4_12 => simp only [List.getElem?_toArray, List.getElem?_cons_succ, List.getElem?_cons_zero] <;> rfl
        case hs4_12 => kernel_rfl
        case hf4_12 => kernel_rfl
        case hr4_12 => kernel_rfl
        case hQ4_12 => exact fun _ _ _ h => h
        case hy4_12 => exact Or.inl ⟨by rfl, fun w hSw => by have q1 := cell_only t1 hSw nTh; have q3 := cell_only t3 hSw nTh; go_simp <;> (try with_reducible rfl)⟩
        simp only [Act.put, List.setIfInBounds_toArray, List.set_cons_zero, List.set_cons_succ]
        refine' wpAnyH_take (i := 5) ?hi5_12 ?hs5_12 ?hf5_12 ?hr5_12 ?hQ5_12 ?hy5_12 (by assumption) ?rest5_12
        case hi5_12 => simp only [List.getElem?_toArray, List.getElem?_cons_succ, List.getElem?_cons_zero] <;> rfl
        case hs5_12 => kernel_rfl
        case hf5_12 => kernel_rfl
        case hr5_12 => kernel_rfl
        case hQ5_12 => exact fun _ _ _ h => h
        case hy5_12 => exact Or.inl ⟨by rfl, fun w hSw => by have q1 := cell_only t1 hSw nTh; have q3 := cell_only t3 hSw nTh; go_simp <;> (try with_reducible rfl)⟩
        simp only [Act.put, List.setIfInBounds_toArray, List.set_cons_zero, List.set_cons_succ]
        refine' wpAnyH_take (i := 6) ?hi6_12 ?hs6_12 ?hf6_12 ?hr6_12 ?hQ6_12 ?hy6_12 (by assumption) ?rest6_12
        case hi6_12 => simp only [List.getElem?_toArray, List.getElem?_cons_succ, List.getElem?_cons_zero] <;> rfl
        case hs6_12 => kernel_rfl
        case hf6_12 => kernel_rfl
        case hr6_12 => kernel_rfl
        case hQ6_12 => exact fun _ _ _ h => h
        case hy6_12 => exact Or.inl ⟨by rfl, fun w hSw => by have q1 := cell_only t1 hSw nTh; have q3 := cell_only t3 hSw nTh; go_simp <;> (try with_reducible rfl)⟩
        simp only [Act.put, List.setIfInBounds_toArray, List.set_cons_zero, List.set_cons_succ]
        refine wpAnyH_ready (rs := [7]) (by kernel_rfl) (by simp) ?_
        refine (AllReadyH.cons rfl (fun K hK => ?_) AllReadyH.nil)
        go_simp
        refine hK.out _ _ (Touch.set hHeld 1 _) (fun hHeld => ?_)
        clear hK K
        refine' wpAnyH_take (i := 8) ?hi8_13 ?hs8_13 ?hf8_13 ?hr8_13 ?hQ8_13 ?hy8_13 (by assumption) ?rest8_13
        case hi8_13 => simp only [List.getElem?_toArray, List.getElem?_cons_succ, List.getElem?_cons_zero] <;> rfl
        case hs8_13 => kernel_rfl
        case hf8_13 => kernel_rfl
        case hr8_13 => kernel_rfl
        case hQ8_13 => exact fun _ _ _ h => h
        case hy8_13 => exact Or.inl ⟨by rfl, fun w hSw => by go_simp <;> (try with_reducible rfl)⟩
        simp only [Act.put, List.setIfInBounds_toArray, List.set_cons_zero, List.set_cons_succ]
        refine wpAnyH_ready (rs := [9]) (by kernel_rfl) (by simp) ?_
        refine (AllReadyH.cons rfl (fun K hK => ?_) AllReadyH.nil)
        go_simp
        refine hK.out _ _ (Touch.set hHeld 3 _) (fun hHeld => ?_)
        clear hK K
        refine wpAnyH_done (by kernel_rfl) ?_ _
        refine NoPanic.normal ?_
        go_wp2_with fail
        go_meet
        exact ⟨BL.set (BL.set B5 1 (.int .i64 ag)) 3 (.bool st), hHeld⟩
      case rest =>
      obtain ⟨w6, rfl⟩ : ∃ w6 : World, w6 = wc := ⟨_, rfl⟩
      obtain ⟨B6, o6⟩ := hcut
      have l2 := cell_only l2 o6 nXh
      have l3 := cell_only l3 o6 nXh
      have l4 := cell_only l4 o6 nXh
      have l8 := cell_only l8 o6 nXh
      have t0 := cell_only t0 o6 nTh
      have t1 := cell_only t1 o6 nTh
      have t2 := cell_only t2 o6 nTh
      have t3 := cell_only t3 o6 nTh
      have p1 := cell_only p1 o6 nGh
      have p2 := cell_only p2 o6 nGh
      have h0 := B6.c 0 _ rfl
      have h1 := B6.c 1 _ rfl
      have h2 := B6.c 2 _ rfl
      have h3 := B6.c 3 _ rfl
      have h4 := B6.c 4 _ rfl
      have h5 := B6.c 5 _ rfl
      have OT6 : Only bw w w6 := Touch.trans OT5 o6 (fun x hx hlt => by omega)
      have z6 := OT6.size
      have HS6 := Lib.hid (HS5.out.touch o6 (show ¬ ba = hb by omega) (show ¬ bw = hb by omega) (show ¬ bt = hb by omega) (fun b off e h => by have := (n8 b off e).2.2; omega))
      obtain ⟨h', hh'⟩ : ∃ h' : Hd, h' = ⟨c, ag, 0, st, fin, false⟩ := ⟨_, rfl⟩
      have hok' : h'.ok := by rw [hh']; exact ⟨HOk.out.1, ⟨hag8.1, hag8.2⟩, ⟨Int.le_refl 0, by show (0 : Int) < 4096; decide⟩, fun hh => by cases hh.2⟩
      obtain ⟨f2, hf2⟩ : ∃ f2, f2 = putF fl tt.toNat (hdW h') := ⟨_, rfl⟩
      have HSH := Lib.hid (show ∀ w', St w' ba bw n fl bt A m cap C → Calls Tryz.prog 59 #[.agg #[.pointer (some ⟨ba, 0, none⟩), .pointer (some ⟨bt, 0, none⟩)], .int .i64 tt, .agg #[.int .i64 c, .int .i64 ag, .int .i64 0, .bool st, .bool fin, .bool false]] w' fun e w2 => e = .returned (.int .i64 0) ∧ St w2 ba bw n f2 bt A m cap C ∧ Only bw w' w2 from fun w' hs => by
        have hh := sethead_yes ba bw n fl bt A m cap C w' hs tt h' (by rw [HObj.out]) hok' (by rw [HObj.out, hh'])
        rw [← hf2, hh'] at hh
        exact hh)
      have nBh : hb ≠ bw := by omega
      have HA6 := Lib.hid (show atT n f2 m C tt = (⟨h', r, d, wd⟩, 0) from atT_head (show (⟨c, 0, 0, false, fin, false⟩ : Hd).cls ≠ 0 by show ((c : Nat) : Int) ≠ 0; omega) HA4.out hok' (by rw [hh']) (by rw [hf2, putF_self]) (by rw [hf2, putF_ne (by omega)]))
      have HF2 := Lib.hid hf2
      have HHH := Lib.hid hh'
      have HOK := Lib.hid hok'
      clear hf2 hh' hok' HA4 HObj HS5 o6
      go_wp2_with fail
      refine wp_region_noPanic ?_
      refine wp_region_held_drew (S := (fun w' => Only bw w6 w')) (by kernel_rfl) (Only.refl _ w6).drew (fun hHeld => ?_)
      refine' wpAnyH_take (i := 0) ?hi0_14 ?hs0_14 ?hf0_14 ?hr0_14 ?hQ0_14 ?hy0_14 (by assumption) ?rest0_14
      case hi0_14 => simp only [List.getElem?_toArray, List.getElem?_cons_zero] <;> rfl
      case hs0_14 => kernel_rfl
      case hf0_14 => kernel_rfl
      case hr0_14 => kernel_rfl
      case hQ0_14 => exact fun _ _ _ h => h
      case hy0_14 => exact Or.inl ⟨by rfl, fun w hSw => by have q0 := cell_only l2 hSw n1; have q1 := cell_only l3 hSw n1; have q4 := cell_only l4 hSw n1; have q8 := cell_only l8 hSw n1; have r0 := cell_only t0 hSw nT; have r1 := cell_only t1 hSw nT; have r2 := cell_only t2 hSw nT; have r3 := cell_only t3 hSw nT; have s1 := cell_only p1 hSw n2; have s2 := cell_only p2 hSw n2; have x0 := cell_only h0 hSw nBh; have x1 := cell_only h1 hSw nBh; have x2 := cell_only h2 hSw nBh; have x3 := cell_only h3 hSw nBh; have x4 := cell_only h4 hSw nBh; have x5 := cell_only h5 hSw nBh; go_simp <;> (try with_reducible rfl)⟩
      simp only [Act.put, List.setIfInBounds_toArray, List.set_cons_zero, List.set_cons_succ]
      refine' wpAnyH_take (i := 1) ?hi1_14 ?hs1_14 ?hf1_14 ?hr1_14 ?hQ1_14 ?hy1_14 (by assumption) ?rest1_14
      case hi1_14 => simp only [List.getElem?_toArray, List.getElem?_cons_succ, List.getElem?_cons_zero] <;> rfl
      case hs1_14 => kernel_rfl
      case hf1_14 => kernel_rfl
      case hr1_14 => kernel_rfl
      case hQ1_14 => exact fun _ _ _ h => h
      case hy1_14 => exact Or.inl ⟨by rfl, fun w hSw => by have q0 := cell_only l2 hSw n1; have q1 := cell_only l3 hSw n1; have q4 := cell_only l4 hSw n1; have q8 := cell_only l8 hSw n1; have r0 := cell_only t0 hSw nT; have r1 := cell_only t1 hSw nT; have r2 := cell_only t2 hSw nT; have r3 := cell_only t3 hSw nT; have s1 := cell_only p1 hSw n2; have s2 := cell_only p2 hSw n2; have x0 := cell_only h0 hSw nBh; have x1 := cell_only h1 hSw nBh; have x2 := cell_only h2 hSw nBh; have x3 := cell_only h3 hSw nBh; have x4 := cell_only h4 hSw nBh; have x5 := cell_only h5 hSw nBh; go_simp <;> (try with_reducible rfl)⟩
      simp only [Act.put, List.setIfInBounds_toArray, List.set_cons_zero, List.set_cons_succ]
      refine' wpAnyH_take (i := 2) ?hi2_14 ?hs2_14 ?hf2_14 ?hr2_14 ?hQ2_14 ?hy2_14 (by assumption) ?rest2_14
      case hi2_14 => simp only [List.getElem?_toArray, List.getElem?_cons_succ, List.getElem?_cons_zero] <;> rfl
      case hs2_14 => kernel_rfl
      case hf2_14 => kernel_rfl
      case hr2_14 => kernel_rfl
      case hQ2_14 => exact fun _ _ _ h => h
      case hy2_14 => exact Or.inl ⟨by rfl, fun w hSw => by have q0 := cell_only l2 hSw n1; have q1 := cell_only l3 hSw n1; have q4 := cell_only l4 hSw n1; have q8 := cell_only l8 hSw n1; have r0 := cell_only t0 hSw nT; have r1 := cell_only t1 hSw nT; have r2 := cell_only t2 hSw nT; have r3 := cell_only t3 hSw nT; have s1 := cell_only p1 hSw n2; have s2 := cell_only p2 hSw n2; have x0 := cell_only h0 hSw nBh; have x1 := cell_only h1 hSw nBh; have x2 := cell_only h2 hSw nBh; have x3 := cell_only h3 hSw nBh; have x4 := cell_only h4 hSw nBh; have x5 := cell_only h5 hSw nBh; go_simp <;> (try with_reducible rfl)⟩
      simp only [Act.put, List.setIfInBounds_toArray, List.set_cons_zero, List.set_cons_succ]
      refine' wpAnyH_take (i := 3) ?hi3_14 ?hs3_14 ?hf3_14 ?hr3_14 ?hQ3_14 ?hy3_14 (by assumption) ?rest3_14
      case hi3_14 => simp only [List.getElem?_toArray, List.getElem?_cons_succ, List.getElem?_cons_zero] <;> rfl
      case hs3_14 => kernel_rfl
      case hf3_14 => kernel_rfl
      case hr3_14 => kernel_rfl
      case hQ3_14 => exact fun _ _ _ h => h
      case hy3_14 => exact Or.inl ⟨by rfl, fun w hSw => by have q0 := cell_only l2 hSw n1; have q1 := cell_only l3 hSw n1; have q4 := cell_only l4 hSw n1; have q8 := cell_only l8 hSw n1; have r0 := cell_only t0 hSw nT; have r1 := cell_only t1 hSw nT; have r2 := cell_only t2 hSw nT; have r3 := cell_only t3 hSw nT; have s1 := cell_only p1 hSw n2; have s2 := cell_only p2 hSw n2; have x0 := cell_only h0 hSw nBh; have x1 := cell_only h1 hSw nBh; have x2 := cell_only h2 hSw nBh; have x3 := cell_only h3 hSw nBh; have x4 := cell_only h4 hSw nBh; have x5 := cell_only h5 hSw nBh; go_simp <;> (try with_reducible rfl)⟩
      simp only [Act.put, List.setIfInBounds_toArray, List.set_cons_zero, List.set_cons_succ]
      refine' wpAnyH_take (i := 4) ?hi4_14 ?hs4_14 ?hf4_14 ?hr4_14 ?hQ4_14 ?hy4_14 (by assumption) ?rest4_14
      case hi4_14 => simp only [List.getElem?_toArray, List.getElem?_cons_succ, List.getElem?_cons_zero] <;> rfl
      case hs4_14 => kernel_rfl
      case hf4_14 => kernel_rfl
      case hr4_14 => kernel_rfl
      case hQ4_14 => exact fun _ _ _ h => h
      case hy4_14 => exact Or.inl ⟨by rfl, fun w hSw => by have q0 := cell_only l2 hSw n1; have q1 := cell_only l3 hSw n1; have q4 := cell_only l4 hSw n1; have q8 := cell_only l8 hSw n1; have r0 := cell_only t0 hSw nT; have r1 := cell_only t1 hSw nT; have r2 := cell_only t2 hSw nT; have r3 := cell_only t3 hSw nT; have s1 := cell_only p1 hSw n2; have s2 := cell_only p2 hSw n2; have x0 := cell_only h0 hSw nBh; have x1 := cell_only h1 hSw nBh; have x2 := cell_only h2 hSw nBh; have x3 := cell_only h3 hSw nBh; have x4 := cell_only h4 hSw nBh; have x5 := cell_only h5 hSw nBh; go_simp <;> (try with_reducible rfl)⟩
      simp only [Act.put, List.setIfInBounds_toArray, List.set_cons_zero, List.set_cons_succ]
      refine' wpAnyH_take (i := 5) ?hi5_14 ?hs5_14 ?hf5_14 ?hr5_14 ?hQ5_14 ?hy5_14 (by assumption) ?rest5_14
      case hi5_14 => simp only [List.getElem?_toArray, List.getElem?_cons_succ, List.getElem?_cons_zero] <;> rfl
      case hs5_14 => kernel_rfl
      case hf5_14 => kernel_rfl
      case hr5_14 => kernel_rfl
      case hQ5_14 => exact fun _ _ _ h => h
      case hy5_14 => exact Or.inl ⟨by rfl, fun w hSw => by have q0 := cell_only l2 hSw n1; have q1 := cell_only l3 hSw n1; have q4 := cell_only l4 hSw n1; have q8 := cell_only l8 hSw n1; have r0 := cell_only t0 hSw nT; have r1 := cell_only t1 hSw nT; have r2 := cell_only t2 hSw nT; have r3 := cell_only t3 hSw nT; have s1 := cell_only p1 hSw n2; have s2 := cell_only p2 hSw n2; have x0 := cell_only h0 hSw nBh; have x1 := cell_only h1 hSw nBh; have x2 := cell_only h2 hSw nBh; have x3 := cell_only h3 hSw nBh; have x4 := cell_only h4 hSw nBh; have x5 := cell_only h5 hSw nBh; go_simp <;> (try with_reducible rfl)⟩
      simp only [Act.put, List.setIfInBounds_toArray, List.set_cons_zero, List.set_cons_succ]
      refine' wpAnyH_take (i := 6) ?hi6_14 ?hs6_14 ?hf6_14 ?hr6_14 ?hQ6_14 ?hy6_14 (by assumption) ?rest6_14
      case hi6_14 => simp only [List.getElem?_toArray, List.getElem?_cons_succ, List.getElem?_cons_zero] <;> rfl
      case hs6_14 => kernel_rfl
      case hf6_14 => kernel_rfl
      case hr6_14 => kernel_rfl
      case hQ6_14 => exact fun _ _ _ h => h
      case hy6_14 => exact Or.inl ⟨by rfl, fun w hSw => by have q0 := cell_only l2 hSw n1; have q1 := cell_only l3 hSw n1; have q4 := cell_only l4 hSw n1; have q8 := cell_only l8 hSw n1; have r0 := cell_only t0 hSw nT; have r1 := cell_only t1 hSw nT; have r2 := cell_only t2 hSw nT; have r3 := cell_only t3 hSw nT; have s1 := cell_only p1 hSw n2; have s2 := cell_only p2 hSw n2; have x0 := cell_only h0 hSw nBh; have x1 := cell_only h1 hSw nBh; have x2 := cell_only h2 hSw nBh; have x3 := cell_only h3 hSw nBh; have x4 := cell_only h4 hSw nBh; have x5 := cell_only h5 hSw nBh; go_simp <;> (try with_reducible rfl)⟩
      simp only [Act.put, List.setIfInBounds_toArray, List.set_cons_zero, List.set_cons_succ]
      refine' wpAnyH_take (i := 7) ?hi7_14 ?hs7_14 ?hf7_14 ?hr7_14 ?hQ7_14 ?hy7_14 (by assumption) ?rest7_14
      case hi7_14 => simp only [List.getElem?_toArray, List.getElem?_cons_succ, List.getElem?_cons_zero] <;> rfl
      case hs7_14 => kernel_rfl
      case hf7_14 => kernel_rfl
      case hr7_14 => kernel_rfl
      case hQ7_14 => exact fun _ _ _ h => h
      case hy7_14 => exact Or.inl ⟨by rfl, fun w hSw => by have q0 := cell_only l2 hSw n1; have q1 := cell_only l3 hSw n1; have q4 := cell_only l4 hSw n1; have q8 := cell_only l8 hSw n1; have r0 := cell_only t0 hSw nT; have r1 := cell_only t1 hSw nT; have r2 := cell_only t2 hSw nT; have r3 := cell_only t3 hSw nT; have s1 := cell_only p1 hSw n2; have s2 := cell_only p2 hSw n2; have x0 := cell_only h0 hSw nBh; have x1 := cell_only h1 hSw nBh; have x2 := cell_only h2 hSw nBh; have x3 := cell_only h3 hSw nBh; have x4 := cell_only h4 hSw nBh; have x5 := cell_only h5 hSw nBh; go_simp <;> (try with_reducible rfl)⟩
      simp only [Act.put, List.setIfInBounds_toArray, List.set_cons_zero, List.set_cons_succ]
      refine' wpAnyH_take (i := 8) ?hi8_14 ?hs8_14 ?hf8_14 ?hr8_14 ?hQ8_14 ?hy8_14 (by assumption) ?rest8_14
      case hi8_14 => simp only [List.getElem?_toArray, List.getElem?_cons_succ, List.getElem?_cons_zero] <;> rfl
      case hs8_14 => kernel_rfl
      case hf8_14 => kernel_rfl
      case hr8_14 => kernel_rfl
      case hQ8_14 => exact fun _ _ _ h => h
      case hy8_14 => exact Or.inl ⟨by rfl, fun w hSw => by have q0 := cell_only l2 hSw n1; have q1 := cell_only l3 hSw n1; have q4 := cell_only l4 hSw n1; have q8 := cell_only l8 hSw n1; have r0 := cell_only t0 hSw nT; have r1 := cell_only t1 hSw nT; have r2 := cell_only t2 hSw nT; have r3 := cell_only t3 hSw nT; have s1 := cell_only p1 hSw n2; have s2 := cell_only p2 hSw n2; have x0 := cell_only h0 hSw nBh; have x1 := cell_only h1 hSw nBh; have x2 := cell_only h2 hSw nBh; have x3 := cell_only h3 hSw nBh; have x4 := cell_only h4 hSw nBh; have x5 := cell_only h5 hSw nBh; go_simp <;> (try with_reducible rfl)⟩
      simp only [Act.put, List.setIfInBounds_toArray, List.set_cons_zero, List.set_cons_succ]
      refine wpAnyH_ready (rs := [9]) (by kernel_rfl) (by simp) ?_
      refine AllReadyH.cons rfl (fun K hK => ?_) AllReadyH.nil
      go_simp
      with_reducible refine Calls.mono (HSH.out _ (HS6.out.touch (Touch.drew (Touch.refl (fun _ => False) w6)) (show ¬ False from id) (show ¬ False from id) (show ¬ False from id) (fun _ _ _ h => h))) ?_
      rintro e w7 ⟨rfl, hS7, o7⟩
      go_wp2_with fail
      refine hK.out _ _ (hHeld.trans_ o7) (fun hHeld => ?_)
      clear hK K
      refine wpAnyH_done (by kernel_rfl) ?_ _
      refine NoPanic.normal ?_
      have o7' : Only bw w6 w7 := hHeld
      have l2 := cell_only l2 o7' n1
      have l3 := cell_only l3 o7' n1
      have l4 := cell_only l4 o7' n1
      have l8 := cell_only l8 o7' n1
      have t0 := cell_only t0 o7' nT
      have t1 := cell_only t1 o7' nT
      have t2 := cell_only t2 o7' nT
      have t3 := cell_only t3 o7' nT
      have p1 := cell_only p1 o7' n2
      have p2 := cell_only p2 o7' n2
      have OT7 : Only bw w w7 := Only.trans_ OT6 o7'
      have z7 := OT7.size
      have HS7 := Lib.hid hS7
      have HI2 := Lib.hid (show ∀ j, j < n → I64 (f2 j) from fun j hj => by
        rw [HF2.out, HFl.out]
        have b1 := hdW_bd HOK.out
        have b2 := hdW_bd HOk.out
        exact i64_putF (i64_layF HI.out.i64 (i64_small (by unfold layW; omega) (by unfold layW; omega)) (i64_small (by omega) (by omega))) (i64_small (by omega) (by omega)) j hj)
      have HSN := Lib.hid (show ∀ w' (g : Nat → Int) (q : Nat), St w' ba bw n g bt A m cap C → (∀ j : Nat, ¬ (tt + 2 + r ≤ j ∧ (j : Int) < tt + wd) → g j = f2 j) → (q : Int) < d → Calls Tryz.prog 60 #[.agg #[.pointer (some ⟨ba, 0, none⟩), .pointer (some ⟨bt, 0, none⟩)], .int .i64 tt, .int .i64 q, .int .i64 (da + q)] w' fun e w2 => e = .returned (.int .i64 0) ∧ St w2 ba bw n (putF g (tt + 2 + r + q).toNat (da + q)) bt A m cap C ∧ Only bw w' w2 from fun w' g q hs hg hq => by
        have e1 : atT n g m C tt = (⟨h', r, d, wd⟩, 0) := by rw [atT_two (hg _ (by omega)) (hg _ (by omega))]; exact HA6.out
        have e2 : objP (atT n g m C tt) = (⟨h', r, d, wd⟩, 0) := by
          rw [objP_obj (by rw [e1]) (by rw [e1, HHH.out]; show ((c : Int) != 0) = true; simp; omega)]
          exact e1
        have hh := setnum_yes ba bw n g bt A m cap C w' hs tt q (da + q) (slE_zero.2 ⟨by rw [e2], by omega, by rw [e2]; exact hq⟩)
        rw [e2] at hh
        exact hh)
      clear hS7 hHeld o7 HS6 HSH h0 h1 h2 h3 h4 h5 B6 B5 BT4
      go_wp2_with fail
      go_loopw [158] (fun i wr => ∃ (q : Nat) (g : Nat → Int), (q : Int) ≤ d ∧ i = .int .i64 q ∧ St wr ba bw n g bt A m cap C ∧ (∀ j : Nat, ¬ (tt + 2 + r ≤ j ∧ (j : Int) < tt + wd) → g j = f2 j) ∧ (∀ j, j < n → I64 (g j)) ∧ Only bw w7 wr) (fun i _ => (d - intOf i).toNat)
      case atStart => exact ⟨0, f2, by omega, rfl, HS7.out, fun j _ => rfl, HI2.out, Only.refl _ _⟩
      case round =>
        obtain ⟨wo, rfl⟩ : ∃ wo : World, wo = wr := ⟨_, rfl⟩
        obtain ⟨q, g, hq, rfl, hSg, hgo, hgi, oo⟩ := hrel
        have HSg := Lib.hid hSg
        have HGo := Lib.hid hgo
        have HGi := Lib.hid hgi
        have l2 := cell_only l2 oo n1
        have l3 := cell_only l3 oo n1
        have l4 := cell_only l4 oo n1
        have l8 := cell_only l8 oo n1
        have t0 := cell_only t0 oo nT
        have t1 := cell_only t1 oo nT
        have t2 := cell_only t2 oo nT
        have t3 := cell_only t3 oo nT
        have p1 := cell_only p1 oo n2
        have p2 := cell_only p2 oo n2
        clear hSg hgo hgi
        by_cases hlt : (q : Int) < d
        · have gq : IntKind.i64.wrap (da + (q : Int)) = da + q := IntWalk.i64_in _ ⟨by omega, by omega⟩
          go_wp2_with fail
          refine wp_region_noPanic ?_
          refine wp_region_held_drew (S := (fun w' => Only bw wo w')) (by kernel_rfl) (Only.refl _ wo).drew (fun hHeld => ?_)
          refine' wpAnyH_take (i := 0) ?hi0_15 ?hs0_15 ?hf0_15 ?hr0_15 ?hQ0_15 ?hy0_15 (by assumption) ?rest0_15
          case hi0_15 => simp only [List.getElem?_toArray, List.getElem?_cons_zero] <;> rfl
          case hs0_15 => kernel_rfl
          case hf0_15 => kernel_rfl
          case hr0_15 => kernel_rfl
          case hQ0_15 => exact fun _ _ _ h => h
          case hy0_15 => exact Or.inl ⟨by rfl, fun w hSw => by have q0 := cell_only l2 hSw n1; have q1 := cell_only l3 hSw n1; have q4 := cell_only l4 hSw n1; have q8 := cell_only l8 hSw n1; have r0 := cell_only t0 hSw nT; have r1 := cell_only t1 hSw nT; have r2 := cell_only t2 hSw nT; have r3 := cell_only t3 hSw nT; have s1 := cell_only p1 hSw n2; have s2 := cell_only p2 hSw n2; go_simp <;> (try with_reducible rfl)⟩
          simp only [Act.put, List.setIfInBounds_toArray, List.set_cons_zero, List.set_cons_succ]
          refine' wpAnyH_take (i := 1) ?hi1_15 ?hs1_15 ?hf1_15 ?hr1_15 ?hQ1_15 ?hy1_15 (by assumption) ?rest1_15
          case hi1_15 => simp only [List.getElem?_toArray, List.getElem?_cons_succ, List.getElem?_cons_zero] <;> rfl
          case hs1_15 => kernel_rfl
          case hf1_15 => kernel_rfl
          case hr1_15 => kernel_rfl
          case hQ1_15 => exact fun _ _ _ h => h
          case hy1_15 => exact Or.inl ⟨by rfl, fun w hSw => by have q0 := cell_only l2 hSw n1; have q1 := cell_only l3 hSw n1; have q4 := cell_only l4 hSw n1; have q8 := cell_only l8 hSw n1; have r0 := cell_only t0 hSw nT; have r1 := cell_only t1 hSw nT; have r2 := cell_only t2 hSw nT; have r3 := cell_only t3 hSw nT; have s1 := cell_only p1 hSw n2; have s2 := cell_only p2 hSw n2; go_simp <;> (try with_reducible rfl)⟩
          simp only [Act.put, List.setIfInBounds_toArray, List.set_cons_zero, List.set_cons_succ]
          refine' wpAnyH_take (i := 2) ?hi2_15 ?hs2_15 ?hf2_15 ?hr2_15 ?hQ2_15 ?hy2_15 (by assumption) ?rest2_15
          case hi2_15 => simp only [List.getElem?_toArray, List.getElem?_cons_succ, List.getElem?_cons_zero] <;> rfl
          case hs2_15 => kernel_rfl
          case hf2_15 => kernel_rfl
          case hr2_15 => kernel_rfl
          case hQ2_15 => exact fun _ _ _ h => h
          case hy2_15 => exact Or.inl ⟨by rfl, fun w hSw => by have q0 := cell_only l2 hSw n1; have q1 := cell_only l3 hSw n1; have q4 := cell_only l4 hSw n1; have q8 := cell_only l8 hSw n1; have r0 := cell_only t0 hSw nT; have r1 := cell_only t1 hSw nT; have r2 := cell_only t2 hSw nT; have r3 := cell_only t3 hSw nT; have s1 := cell_only p1 hSw n2; have s2 := cell_only p2 hSw n2; go_simp <;> (try with_reducible rfl)⟩
          simp only [Act.put, List.setIfInBounds_toArray, List.set_cons_zero, List.set_cons_succ]
          refine' wpAnyH_take (i := 3) ?hi3_15 ?hs3_15 ?hf3_15 ?hr3_15 ?hQ3_15 ?hy3_15 (by assumption) ?rest3_15
          case hi3_15 => simp only [List.getElem?_toArray, List.getElem?_cons_succ, List.getElem?_cons_zero] <;> rfl
          case hs3_15 => kernel_rfl
          case hf3_15 => kernel_rfl
          case hr3_15 => kernel_rfl
          case hQ3_15 => exact fun _ _ _ h => h
          case hy3_15 => exact Or.inl ⟨by rfl, fun w hSw => by have q0 := cell_only l2 hSw n1; have q1 := cell_only l3 hSw n1; have q4 := cell_only l4 hSw n1; have q8 := cell_only l8 hSw n1; have r0 := cell_only t0 hSw nT; have r1 := cell_only t1 hSw nT; have r2 := cell_only t2 hSw nT; have r3 := cell_only t3 hSw nT; have s1 := cell_only p1 hSw n2; have s2 := cell_only p2 hSw n2; go_simp <;> (try with_reducible rfl)⟩
          simp only [Act.put, List.setIfInBounds_toArray, List.set_cons_zero, List.set_cons_succ]
          refine' wpAnyH_take (i := 4) ?hi4_15 ?hs4_15 ?hf4_15 ?hr4_15 ?hQ4_15 ?hy4_15 (by assumption) ?rest4_15
          case hi4_15 => simp only [List.getElem?_toArray, List.getElem?_cons_succ, List.getElem?_cons_zero] <;> rfl
          case hs4_15 => kernel_rfl
          case hf4_15 => kernel_rfl
          case hr4_15 => kernel_rfl
          case hQ4_15 => exact fun _ _ _ h => h
          case hy4_15 => exact Or.inl ⟨by rfl, fun w hSw => by have q0 := cell_only l2 hSw n1; have q1 := cell_only l3 hSw n1; have q4 := cell_only l4 hSw n1; have q8 := cell_only l8 hSw n1; have r0 := cell_only t0 hSw nT; have r1 := cell_only t1 hSw nT; have r2 := cell_only t2 hSw nT; have r3 := cell_only t3 hSw nT; have s1 := cell_only p1 hSw n2; have s2 := cell_only p2 hSw n2; go_simp <;> (try with_reducible rfl)⟩
          simp only [Act.put, List.setIfInBounds_toArray, List.set_cons_zero, List.set_cons_succ]
          refine' wpAnyH_take (i := 5) ?hi5_15 ?hs5_15 ?hf5_15 ?hr5_15 ?hQ5_15 ?hy5_15 (by assumption) ?rest5_15
          case hi5_15 => simp only [List.getElem?_toArray, List.getElem?_cons_succ, List.getElem?_cons_zero] <;> rfl
          case hs5_15 => kernel_rfl
          case hf5_15 => kernel_rfl
          case hr5_15 => kernel_rfl
          case hQ5_15 => exact fun _ _ _ h => h
          case hy5_15 => exact Or.inl ⟨by rfl, fun w hSw => by have q0 := cell_only l2 hSw n1; have q1 := cell_only l3 hSw n1; have q4 := cell_only l4 hSw n1; have q8 := cell_only l8 hSw n1; have r0 := cell_only t0 hSw nT; have r1 := cell_only t1 hSw nT; have r2 := cell_only t2 hSw nT; have r3 := cell_only t3 hSw nT; have s1 := cell_only p1 hSw n2; have s2 := cell_only p2 hSw n2; go_simp <;> (try with_reducible rfl)⟩
          simp only [Act.put, List.setIfInBounds_toArray, List.set_cons_zero, List.set_cons_succ]
          refine' wpAnyH_take (i := 6) ?hi6_15 ?hs6_15 ?hf6_15 ?hr6_15 ?hQ6_15 ?hy6_15 (by assumption) ?rest6_15
          case hi6_15 => simp only [List.getElem?_toArray, List.getElem?_cons_succ, List.getElem?_cons_zero] <;> rfl
          case hs6_15 => kernel_rfl
          case hf6_15 => kernel_rfl
          case hr6_15 => kernel_rfl
          case hQ6_15 => exact fun _ _ _ h => h
          case hy6_15 => exact Or.inl ⟨by rfl, fun w hSw => by have q0 := cell_only l2 hSw n1; have q1 := cell_only l3 hSw n1; have q4 := cell_only l4 hSw n1; have q8 := cell_only l8 hSw n1; have r0 := cell_only t0 hSw nT; have r1 := cell_only t1 hSw nT; have r2 := cell_only t2 hSw nT; have r3 := cell_only t3 hSw nT; have s1 := cell_only p1 hSw n2; have s2 := cell_only p2 hSw n2; go_simp <;> (try with_reducible rfl)⟩
          simp only [Act.put, List.setIfInBounds_toArray, List.set_cons_zero, List.set_cons_succ]
          refine' wpAnyH_take (i := 7) ?hi7_15 ?hs7_15 ?hf7_15 ?hr7_15 ?hQ7_15 ?hy7_15 (by assumption) ?rest7_15
          case hi7_15 => simp only [List.getElem?_toArray, List.getElem?_cons_succ, List.getElem?_cons_zero] <;> rfl
          case hs7_15 => kernel_rfl
          case hf7_15 => kernel_rfl
          case hr7_15 => kernel_rfl
          case hQ7_15 => exact fun _ _ _ h => h
          case hy7_15 => exact Or.inl ⟨by rfl, fun w hSw => by have q0 := cell_only l2 hSw n1; have q1 := cell_only l3 hSw n1; have q4 := cell_only l4 hSw n1; have q8 := cell_only l8 hSw n1; have r0 := cell_only t0 hSw nT; have r1 := cell_only t1 hSw nT; have r2 := cell_only t2 hSw nT; have r3 := cell_only t3 hSw nT; have s1 := cell_only p1 hSw n2; have s2 := cell_only p2 hSw n2; go_simp <;> (try with_reducible rfl)⟩
          simp only [Act.put, List.setIfInBounds_toArray, List.set_cons_zero, List.set_cons_succ]
          refine' wpAnyH_take (i := 8) ?hi8_15 ?hs8_15 ?hf8_15 ?hr8_15 ?hQ8_15 ?hy8_15 (by assumption) ?rest8_15
          case hi8_15 => simp only [List.getElem?_toArray, List.getElem?_cons_succ, List.getElem?_cons_zero] <;> rfl
          case hs8_15 => kernel_rfl
          case hf8_15 => kernel_rfl
          case hr8_15 => kernel_rfl
          case hQ8_15 => exact fun _ _ _ h => h
          case hy8_15 => exact Or.inl ⟨by rfl, fun w hSw => by have q0 := cell_only l2 hSw n1; have q1 := cell_only l3 hSw n1; have q4 := cell_only l4 hSw n1; have q8 := cell_only l8 hSw n1; have r0 := cell_only t0 hSw nT; have r1 := cell_only t1 hSw nT; have r2 := cell_only t2 hSw nT; have r3 := cell_only t3 hSw nT; have s1 := cell_only p1 hSw n2; have s2 := cell_only p2 hSw n2; go_simp <;> (try with_reducible rfl)⟩
          simp only [Act.put, List.setIfInBounds_toArray, List.set_cons_zero, List.set_cons_succ]
          refine' wpAnyH_take (i := 9) ?hi9_15 ?hs9_15 ?hf9_15 ?hr9_15 ?hQ9_15 ?hy9_15 (by assumption) ?rest9_15
          case hi9_15 => simp only [List.getElem?_toArray, List.getElem?_cons_succ, List.getElem?_cons_zero] <;> rfl
          case hs9_15 => kernel_rfl
          case hf9_15 => kernel_rfl
          case hr9_15 => kernel_rfl
          case hQ9_15 => exact fun _ _ _ h => h
          case hy9_15 => exact Or.inl ⟨by rfl, fun w hSw => by have q0 := cell_only l2 hSw n1; have q1 := cell_only l3 hSw n1; have q4 := cell_only l4 hSw n1; have q8 := cell_only l8 hSw n1; have r0 := cell_only t0 hSw nT; have r1 := cell_only t1 hSw nT; have r2 := cell_only t2 hSw nT; have r3 := cell_only t3 hSw nT; have s1 := cell_only p1 hSw n2; have s2 := cell_only p2 hSw n2; go_simp <;> (try with_reducible rfl)⟩
          simp only [Act.put, List.setIfInBounds_toArray, List.set_cons_zero, List.set_cons_succ]
          refine' wpAnyH_take (i := 10) ?hi10_15 ?hs10_15 ?hf10_15 ?hr10_15 ?hQ10_15 ?hy10_15 (by assumption) ?rest10_15
          case hi10_15 => simp only [List.getElem?_toArray, List.getElem?_cons_succ, List.getElem?_cons_zero] <;> rfl
          case hs10_15 => kernel_rfl
          case hf10_15 => kernel_rfl
          case hr10_15 => kernel_rfl
          case hQ10_15 => exact fun _ _ _ h => h
          case hy10_15 => exact Or.inl ⟨by rfl, fun w hSw => by have q0 := cell_only l2 hSw n1; have q1 := cell_only l3 hSw n1; have q4 := cell_only l4 hSw n1; have q8 := cell_only l8 hSw n1; have r0 := cell_only t0 hSw nT; have r1 := cell_only t1 hSw nT; have r2 := cell_only t2 hSw nT; have r3 := cell_only t3 hSw nT; have s1 := cell_only p1 hSw n2; have s2 := cell_only p2 hSw n2; go_simp <;> (try with_reducible rfl)⟩
          simp only [Act.put, List.setIfInBounds_toArray, List.set_cons_zero, List.set_cons_succ]
          refine' wpAnyH_take (i := 11) ?hi11_15 ?hs11_15 ?hf11_15 ?hr11_15 ?hQ11_15 ?hy11_15 (by assumption) ?rest11_15
          case hi11_15 => simp only [List.getElem?_toArray, List.getElem?_cons_succ, List.getElem?_cons_zero] <;> rfl
          case hs11_15 => kernel_rfl
          case hf11_15 => kernel_rfl
          case hr11_15 => kernel_rfl
          case hQ11_15 => exact fun _ _ _ h => h
          case hy11_15 => exact Or.inl ⟨by rfl, fun w hSw => by have q0 := cell_only l2 hSw n1; have q1 := cell_only l3 hSw n1; have q4 := cell_only l4 hSw n1; have q8 := cell_only l8 hSw n1; have r0 := cell_only t0 hSw nT; have r1 := cell_only t1 hSw nT; have r2 := cell_only t2 hSw nT; have r3 := cell_only t3 hSw nT; have s1 := cell_only p1 hSw n2; have s2 := cell_only p2 hSw n2; go_simp <;> (try with_reducible rfl)⟩
          simp only [Act.put, List.setIfInBounds_toArray, List.set_cons_zero, List.set_cons_succ]
          refine' wpAnyH_take (i := 12) ?hi12_15 ?hs12_15 ?hf12_15 ?hr12_15 ?hQ12_15 ?hy12_15 (by assumption) ?rest12_15
          case hi12_15 => simp only [List.getElem?_toArray, List.getElem?_cons_succ, List.getElem?_cons_zero] <;> rfl
          case hs12_15 => kernel_rfl
          case hf12_15 => kernel_rfl
          case hr12_15 => kernel_rfl
          case hQ12_15 => exact fun _ _ _ h => h
          case hy12_15 => exact Or.inl ⟨by rfl, fun w hSw => by have q0 := cell_only l2 hSw n1; have q1 := cell_only l3 hSw n1; have q4 := cell_only l4 hSw n1; have q8 := cell_only l8 hSw n1; have r0 := cell_only t0 hSw nT; have r1 := cell_only t1 hSw nT; have r2 := cell_only t2 hSw nT; have r3 := cell_only t3 hSw nT; have s1 := cell_only p1 hSw n2; have s2 := cell_only p2 hSw n2; go_simp <;> (try with_reducible rfl)⟩
          simp only [Act.put, List.setIfInBounds_toArray, List.set_cons_zero, List.set_cons_succ]
          refine' wpAnyH_take (i := 13) ?hi13_15 ?hs13_15 ?hf13_15 ?hr13_15 ?hQ13_15 ?hy13_15 (by assumption) ?rest13_15
          case hi13_15 => simp only [List.getElem?_toArray, List.getElem?_cons_succ, List.getElem?_cons_zero] <;> rfl
          case hs13_15 => kernel_rfl
          case hf13_15 => kernel_rfl
          case hr13_15 => kernel_rfl
          case hQ13_15 => exact fun _ _ _ h => h
          case hy13_15 => exact Or.inl ⟨by rfl, fun w hSw => by have q0 := cell_only l2 hSw n1; have q1 := cell_only l3 hSw n1; have q4 := cell_only l4 hSw n1; have q8 := cell_only l8 hSw n1; have r0 := cell_only t0 hSw nT; have r1 := cell_only t1 hSw nT; have r2 := cell_only t2 hSw nT; have r3 := cell_only t3 hSw nT; have s1 := cell_only p1 hSw n2; have s2 := cell_only p2 hSw n2; go_simp <;> (try with_reducible rfl)⟩
          simp only [Act.put, List.setIfInBounds_toArray, List.set_cons_zero, List.set_cons_succ]
          refine wpAnyH_ready (rs := [14]) (by kernel_rfl) (by simp) ?_
          refine AllReadyH.cons rfl (fun K hK => ?_) AllReadyH.nil
          go_simp
          with_reducible refine Calls.mono (HSN.out _ g q (HSg.out.keep (Touch.drew (Touch.refl (fun _ => False) wo))) HGo.out hlt) ?_
          rintro e w9 ⟨rfl, hS9, o9⟩
          go_wp2_with fail
          refine hK.out _ _ (hHeld.trans_ o9) (fun hHeld => ?_)
          clear hK K
          refine wpAnyH_done (by kernel_rfl) ?_ _
          refine NoPanic.normal ?_
          go_wp2_with fail
          go_roundw
          case rel => exact ⟨q + 1, _, by omega, by go_num, hS9, fun j hj => by have hwd := HWd.out; rw [putF_ne (by omega)]; exact HGo.out j hj, fun j hj => by
            unfold putF
            split
            · exact i64_small (by omega) (by omega)
            · exact HGi.out j hj, Only.trans_ oo hHeld⟩
          case measure => simp [intOf]; omega
        · have hqd : (q : Int) = d := by omega
          have OT8 : Only bw w wo := Only.trans_ OT7 oo
          have z8 := OT8.size
          have HB8 := Lib.hid (HBh.out.touch OT8 n1)
          have l5 := HB8.out.c 5 _ rfl
          have fl5 := HB8.out.fz 5
          have hat8 := HAt.out.touch OT8 (fun kk e h => by have := (HAt.out.lt kk e).1; omega)
          have hx8 := HB8.out.lt
          have nG8 : ¬ (gs = xb ∨ av.ownBlock = some gs) := fun h => by
            rcases h with h | h
            · exact n3 h
            · have := (HAt.out.lt gs h).1; omega
          have HLow := Lib.hid (fun kk (e : av.ownBlock = some kk) => (HAt.out.lt kk e).1)
          have hsb8 : base ≤ wo.heap.size := by omega
          have H8 := Lib.hid hat8
          have hlen8 : ats.length ≤ 1000 := hal
          clear oo hqd hat8 HSN
          go_upto_region 23 with fail
          go_cut [] from 177 to 190 (fun wx => ∃ av', BL wx xb 36 [.pointer (some ⟨ba, 0, none⟩), .pointer (some ⟨bt, 0, none⟩), .pointer (some ⟨ba, 0, none⟩), .pointer (some ⟨bt, 0, none⟩), .slice (some ⟨gs, 0, none⟩) 3 scp, av', stv, rov, .slice (some ⟨ab, ao, none⟩) m cc] ∧ OwnInts wx base av' (ats ++ [tt]) ∧ (∀ kk, av'.ownBlock = some kk → av.ownBlock = some kk ∨ w.heap.size ≤ kk) ∧ Touch (fun kk => kk = xb ∨ av.ownBlock = some kk) wo wx)
          case first =>
            clear HSg HGo HGi HA6 HF2 HHH HOK HFl HI HN HBh HAt HS7 HI2
            refine wp_region_noPanic ?_
            refine wp_region_held_drew (S := (fun w' => Touch (fun kk => kk = xb ∨ av.ownBlock = some kk) wo w')) (by kernel_rfl) (Touch.refl (fun kk => kk = xb ∨ av.ownBlock = some kk) wo).drew (fun hHeld => ?_)
            refine' wpAnyH_take (i := 0) ?hi0_16 ?hs0_16 ?hf0_16 ?hr0_16 ?hQ0_16 ?hy0_16 (by assumption) ?rest0_16
            case hi0_16 => simp only [List.getElem?_toArray, List.getElem?_cons_zero] <;> rfl
            case hs0_16 => kernel_rfl
            case hf0_16 => kernel_rfl
            case hr0_16 => kernel_rfl
            case hQ0_16 => exact fun _ _ _ h => h
            case hy0_16 => exact Or.inl ⟨by rfl, fun w hSw => by go_simp <;> (try with_reducible rfl)⟩
            simp only [Act.put, List.setIfInBounds_toArray, List.set_cons_zero, List.set_cons_succ]
            refine' wpAnyH_take (i := 1) ?hi1_16 ?hs1_16 ?hf1_16 ?hr1_16 ?hQ1_16 ?hy1_16 (by assumption) ?rest1_16
            case hi1_16 => simp only [List.getElem?_toArray, List.getElem?_cons_succ, List.getElem?_cons_zero] <;> rfl
            case hs1_16 => kernel_rfl
            case hf1_16 => kernel_rfl
            case hr1_16 => kernel_rfl
            case hQ1_16 => exact fun _ _ _ h => h
            case hy1_16 => exact Or.inl ⟨by rfl, fun w hSw => by go_simp <;> (try with_reducible rfl)⟩
            simp only [Act.put, List.setIfInBounds_toArray, List.set_cons_zero, List.set_cons_succ]
            refine' wpAnyH_take (i := 2) ?hi2_16 ?hs2_16 ?hf2_16 ?hr2_16 ?hQ2_16 ?hy2_16 (by assumption) ?rest2_16
            case hi2_16 => simp only [List.getElem?_toArray, List.getElem?_cons_succ, List.getElem?_cons_zero] <;> rfl
            case hs2_16 => kernel_rfl
            case hf2_16 => kernel_rfl
            case hr2_16 => kernel_rfl
            case hQ2_16 => exact fun _ _ _ h => h
            case hy2_16 => exact Or.inl ⟨by rfl, fun w hSw => by go_simp <;> (try with_reducible rfl)⟩
            simp only [Act.put, List.setIfInBounds_toArray, List.set_cons_zero, List.set_cons_succ]
            refine' wpAnyH_take (i := 3) ?hi3_16 ?hs3_16 ?hf3_16 ?hr3_16 ?hQ3_16 ?hy3_16 (by assumption) ?rest3_16
            case hi3_16 => simp only [List.getElem?_toArray, List.getElem?_cons_succ, List.getElem?_cons_zero] <;> rfl
            case hs3_16 => kernel_rfl
            case hf3_16 => kernel_rfl
            case hr3_16 => kernel_rfl
            case hQ3_16 => exact fun _ _ _ h => h
            case hy3_16 => exact Or.inl ⟨by rfl, fun w hSw => by go_simp <;> (try with_reducible rfl)⟩
            simp only [Act.put, List.setIfInBounds_toArray, List.set_cons_zero, List.set_cons_succ]
            refine' wpAnyH_take (i := 5) ?hi5_16 ?hs5_16 ?hf5_16 ?hr5_16 ?hQ5_16 ?hy5_16 (by assumption) ?rest5_16
            case hi5_16 => simp only [List.getElem?_toArray, List.getElem?_cons_succ, List.getElem?_cons_zero] <;> rfl
            case hs5_16 => kernel_rfl
            case hf5_16 => kernel_rfl
            case hr5_16 => kernel_rfl
            case hQ5_16 => exact fun _ _ _ h => h
            case hy5_16 => exact Or.inl ⟨by rfl, fun w hSw => by have q1 := cell_t p1 hSw nG8; go_simp <;> (try with_reducible rfl)⟩
            simp only [Act.put, List.setIfInBounds_toArray, List.set_cons_zero, List.set_cons_succ]
            refine' wpAnyH_take (i := 6) ?hi6_16 ?hs6_16 ?hf6_16 ?hr6_16 ?hQ6_16 ?hy6_16 (by assumption) ?rest6_16
            case hi6_16 => simp only [List.getElem?_toArray, List.getElem?_cons_succ, List.getElem?_cons_zero] <;> rfl
            case hs6_16 => kernel_rfl
            case hf6_16 => kernel_rfl
            case hr6_16 => kernel_rfl
            case hQ6_16 => exact fun _ _ _ h => h
            case hy6_16 => exact Or.inl ⟨by rfl, fun w hSw => by have q1 := cell_t p1 hSw nG8; go_simp <;> (try with_reducible rfl)⟩
            simp only [Act.put, List.setIfInBounds_toArray, List.set_cons_zero, List.set_cons_succ]
            refine' wpAnyH_take (i := 7) ?hi7_16 ?hs7_16 ?hf7_16 ?hr7_16 ?hQ7_16 ?hy7_16 (by assumption) ?rest7_16
            case hi7_16 => simp only [List.getElem?_toArray, List.getElem?_cons_succ, List.getElem?_cons_zero] <;> rfl
            case hs7_16 => kernel_rfl
            case hf7_16 => kernel_rfl
            case hr7_16 => kernel_rfl
            case hQ7_16 => exact fun _ _ _ h => h
            case hy7_16 => exact Or.inl ⟨by rfl, fun w hSw => by have q1 := cell_t p1 hSw nG8; go_simp <;> (try with_reducible rfl)⟩
            simp only [Act.put, List.setIfInBounds_toArray, List.set_cons_zero, List.set_cons_succ]
            refine' wpAnyH_take (i := 8) ?hi8_16 ?hs8_16 ?hf8_16 ?hr8_16 ?hQ8_16 ?hy8_16 (by assumption) ?rest8_16
            case hi8_16 => simp only [List.getElem?_toArray, List.getElem?_cons_succ, List.getElem?_cons_zero] <;> rfl
            case hs8_16 => kernel_rfl
            case hf8_16 => kernel_rfl
            case hr8_16 => kernel_rfl
            case hQ8_16 => exact fun _ _ _ h => h
            case hy8_16 => exact Or.inl ⟨by rfl, fun w hSw => by have q1 := cell_t p1 hSw nG8; go_simp <;> (try with_reducible rfl)⟩
            simp only [Act.put, List.setIfInBounds_toArray, List.set_cons_zero, List.set_cons_succ]
            refine wpAnyH_ready (rs := [4, 9]) (by kernel_rfl) (by simp) ?_
            refine (AllReadyH.cons rfl (fun K hK => ?_) (AllReadyH.cons rfl (fun K hK => ?_) AllReadyH.nil))
            · go_simp
              refine hK.out _ _ hHeld (fun hHeld => ?_)
              clear hK K
              refine wpAnyH_ready (rs := [9]) (by kernel_rfl) (by simp) ?_
              refine (AllReadyH.cons rfl (fun K hK => ?_) AllReadyH.nil)
              go_simp
              have ka : Keeps wo ((wo.drew).alloc (.cells (#[.int .i64 tt]) 3)) := (Touch.refl _ wo).drew.alloc _
              refine hK.out _ _ (ka.mono (fun _ h _ => h.elim)) (fun hHeld => ?_)
              clear hK K
              refine wpAnyH_ready (rs := [10]) (by kernel_rfl) (by simp) ?_
              refine (AllReadyH.cons rfl (fun K hK => ?_) AllReadyH.nil)
              rw [if_pos (show Region.wanted _ _ = true from rfl)]
              refine wp_app_ints (.tmp 181) (.tmp 186) rfl base av ats (H8.out.alloc (.cells (#[.int .i64 tt]) 3)) rfl ⟨wo.heap.size, 0, none⟩ 1 1 rfl (fun _ => tt) (rd_one wo.drew wo.heap.size tt rfl) (by omega) (by simp; omega) ?_
              intro v9 w9 hown9 hgr9 hbl9
              have HBl := Lib.hid (show ∀ kk, v9.ownBlock = some kk → av.ownBlock = some kk ∨ w.heap.size ≤ kk from fun kk e => by { rcases hbl9 with h | h; { exact .inl (h ▸ e) }; { rw [h] at e; simp at e; exact .inr (by omega) } })
              clear hbl9
              obtain ⟨ae, ce, hv9⟩ := hown9.form
              simp only [List.length_append, List.length_map, List.length_range] at hv9
              subst hv9
              have B9 := BL.grown (BL.drew (BL.alloc HB8.out (.cells (#[.int .i64 tt]) 3))) hgr9 (fun e => by have := HLow.out _ e; omega)
              have T9 : Touch (fun kk => kk = xb ∨ av.ownBlock = some kk) wo w9 := Touch.grown (show Touch (fun kk => kk = xb ∨ av.ownBlock = some kk) wo ((wo.alloc (.cells (#[.int .i64 tt]) 3)).drew) from ka.mono (fun _ h _ => h.elim)) hgr9 (fun kk e _ => .inr e)
              have c9 := B9.c 5 _ rfl
              have fz9 := B9.fz 5
              have HO9 := Lib.hid hown9
              clear hown9 hgr9
              refine hK.out _ _ T9 (fun hHeld => ?_)
              clear hK K
              simp only [Act.put, List.setIfInBounds_toArray, List.set_cons_zero, List.set_cons_succ]
              refine' wpAnyH_take (i := 11) ?hi11_17 ?hs11_17 ?hf11_17 ?hr11_17 ?hQ11_17 ?hy11_17 (by assumption) ?rest11_17
              case hi11_17 => simp only [List.getElem?_toArray, List.getElem?_cons_succ, List.getElem?_cons_zero] <;> rfl
              case hs11_17 => kernel_rfl
              case hf11_17 => kernel_rfl
              case hr11_17 => kernel_rfl
              case hQ11_17 => exact fun _ _ _ h => h
              case hy11_17 => exact Or.inl ⟨by rfl, fun w hSw => by go_simp <;> (try with_reducible rfl)⟩
              simp only [Act.put, List.setIfInBounds_toArray, List.set_cons_zero, List.set_cons_succ]
              refine' wpAnyH_take (i := 12) ?hi12_17 ?hs12_17 ?hf12_17 ?hr12_17 ?hQ12_17 ?hy12_17 (by assumption) ?rest12_17
              case hi12_17 => simp only [List.getElem?_toArray, List.getElem?_cons_succ, List.getElem?_cons_zero] <;> rfl
              case hs12_17 => kernel_rfl
              case hf12_17 => kernel_rfl
              case hr12_17 => kernel_rfl
              case hQ12_17 => exact fun _ _ _ h => h
              case hy12_17 => exact Or.inl ⟨by rfl, fun w hSw => by go_simp <;> (try with_reducible rfl)⟩
              simp only [Act.put, List.setIfInBounds_toArray, List.set_cons_zero, List.set_cons_succ]
              refine wpAnyH_ready (rs := [13]) (by kernel_rfl) (by simp) ?_
              refine (AllReadyH.cons rfl (fun K hK => ?_) AllReadyH.nil)
              go_simp
              refine hK.out _ _ (Touch.setCell T9 (fun _ => .inl rfl) _) (fun hHeld => ?_)
              clear hK K
              refine wpAnyH_done (by kernel_rfl) ?_ _
              refine NoPanic.normal ?_
              go_wp2_with fail
              go_meet
              exact ⟨_, BL.set B9 5 _, HO9.out.touch (Touch.set (Only.refl xb w9) 5 _) (fun kk e h => by have := (HO9.out.lt kk e).1; omega), HBl.out, hHeld⟩
            · go_simp
              have ka : Keeps wo ((wo.drew).alloc (.cells (#[.int .i64 tt]) 3)) := (Touch.refl _ wo).drew.alloc _
              refine hK.out _ _ (ka.mono (fun _ h _ => h.elim)) (fun hHeld => ?_)
              clear hK K
              refine wpAnyH_ready (rs := [4]) (by kernel_rfl) (by simp) ?_
              refine (AllReadyH.cons rfl (fun K hK => ?_) AllReadyH.nil)
              go_simp
              refine hK.out _ _ hHeld (fun hHeld => ?_)
              clear hK K
              refine wpAnyH_ready (rs := [10]) (by kernel_rfl) (by simp) ?_
              refine (AllReadyH.cons rfl (fun K hK => ?_) AllReadyH.nil)
              rw [if_pos (show Region.wanted _ _ = true from rfl)]
              refine wp_app_ints (.tmp 181) (.tmp 186) rfl base av ats (H8.out.alloc (.cells (#[.int .i64 tt]) 3)) rfl ⟨wo.heap.size, 0, none⟩ 1 1 rfl (fun _ => tt) (rd_one wo.drew wo.heap.size tt rfl) (by omega) (by simp; omega) ?_
              intro v9 w9 hown9 hgr9 hbl9
              have HBl := Lib.hid (show ∀ kk, v9.ownBlock = some kk → av.ownBlock = some kk ∨ w.heap.size ≤ kk from fun kk e => by { rcases hbl9 with h | h; { exact .inl (h ▸ e) }; { rw [h] at e; simp at e; exact .inr (by omega) } })
              clear hbl9
              obtain ⟨ae, ce, hv9⟩ := hown9.form
              simp only [List.length_append, List.length_map, List.length_range] at hv9
              subst hv9
              have B9 := BL.grown (BL.drew (BL.alloc HB8.out (.cells (#[.int .i64 tt]) 3))) hgr9 (fun e => by have := HLow.out _ e; omega)
              have T9 : Touch (fun kk => kk = xb ∨ av.ownBlock = some kk) wo w9 := Touch.grown (show Touch (fun kk => kk = xb ∨ av.ownBlock = some kk) wo ((wo.alloc (.cells (#[.int .i64 tt]) 3)).drew) from ka.mono (fun _ h _ => h.elim)) hgr9 (fun kk e _ => .inr e)
              have c9 := B9.c 5 _ rfl
              have fz9 := B9.fz 5
              have HO9 := Lib.hid hown9
              clear hown9 hgr9
              refine hK.out _ _ T9 (fun hHeld => ?_)
              clear hK K
              simp only [Act.put, List.setIfInBounds_toArray, List.set_cons_zero, List.set_cons_succ]
              refine' wpAnyH_take (i := 11) ?hi11_18 ?hs11_18 ?hf11_18 ?hr11_18 ?hQ11_18 ?hy11_18 (by assumption) ?rest11_18
              case hi11_18 => simp only [List.getElem?_toArray, List.getElem?_cons_succ, List.getElem?_cons_zero] <;> rfl
              case hs11_18 => kernel_rfl
              case hf11_18 => kernel_rfl
              case hr11_18 => kernel_rfl
              case hQ11_18 => exact fun _ _ _ h => h
              case hy11_18 => exact Or.inl ⟨by rfl, fun w hSw => by go_simp <;> (try with_reducible rfl)⟩
              simp only [Act.put, List.setIfInBounds_toArray, List.set_cons_zero, List.set_cons_succ]
              refine' wpAnyH_take (i := 12) ?hi12_18 ?hs12_18 ?hf12_18 ?hr12_18 ?hQ12_18 ?hy12_18 (by assumption) ?rest12_18
              case hi12_18 => simp only [List.getElem?_toArray, List.getElem?_cons_succ, List.getElem?_cons_zero] <;> rfl
              case hs12_18 => kernel_rfl
              case hf12_18 => kernel_rfl
              case hr12_18 => kernel_rfl
              case hQ12_18 => exact fun _ _ _ h => h
              case hy12_18 => exact Or.inl ⟨by rfl, fun w hSw => by go_simp <;> (try with_reducible rfl)⟩
              simp only [Act.put, List.setIfInBounds_toArray, List.set_cons_zero, List.set_cons_succ]
              refine wpAnyH_ready (rs := [13]) (by kernel_rfl) (by simp) ?_
              refine (AllReadyH.cons rfl (fun K hK => ?_) AllReadyH.nil)
              go_simp
              refine hK.out _ _ (Touch.setCell T9 (fun _ => .inl rfl) _) (fun hHeld => ?_)
              clear hK K
              refine wpAnyH_done (by kernel_rfl) ?_ _
              refine NoPanic.normal ?_
              go_wp2_with fail
              go_meet
              exact ⟨_, BL.set B9 5 _, HO9.out.touch (Touch.set (Only.refl xb w9) 5 _) (fun kk e h => by have := (HO9.out.lt kk e).1; omega), HBl.out, hHeld⟩
          case rest =>
          obtain ⟨w9, rfl⟩ : ∃ w9 : World, w9 = wc := ⟨_, rfl⟩
          obtain ⟨av', B9, hown9, how9, o9⟩ := hcut
          have HOw9 := Lib.hid how9
          clear how9
          have H9 := Lib.hid hown9
          have HB9 := Lib.hid B9
          have OT9 : Touch (fun kk => kk = xb ∨ kk = bw ∨ kk = gs ∨ av.ownBlock = some kk) w w9 := Touch.trans (OT8.mono (fun x hx _ => .inr (.inl hx))) o9 (fun x hx _ => hx.elim .inl (fun h => .inr (.inr (.inr h))))
          have HN8 := Lib.hid ((HN.out.at_touch OT8 n2 OT8.size).at_touch o9 nG8 o9.size)
          obtain ⟨g9, he9, _, _, _, p9, _, _, f9, _⟩ := HN8.out.at_ hk3
          simp only [Option.some.injEq, Addr.mk.injEq, and_true] at he9
          subst he9
          rw [HTT.out] at p9
          have gadd : IntKind.i64.wrap (tt + wd) = tt + wd := IntWalk.i64_in _ ⟨by omega, by omega⟩
          have zo9 := o9.size
          have HO9 := Lib.hid o9
          have HOT9 := Lib.hid OT9
          clear hown9 B9 o9 OT9 l5 fl5
          go_wp2_with fail
          go_ret
          have TW : Touch (fun kk => kk = xb ∨ kk = bw ∨ kk = gs ∨ av.ownBlock = some kk) w (w9.setCell ⟨gs, k * 3 + 1, none⟩ (.int .i64 (tt + wd))) := Touch.setCell HOT9.out (fun _ => .inr (.inr (.inl rfl))) _
          have HU : setS L k { L k with t := tt + wd } = upT L k wd := by unfold upT; rw [HTT.out]
          have hwd := HWd.out
          have e1 : atT n g m C tt = (⟨h', r, d, wd⟩, 0) := by rw [atT_two (HGo.out _ (by omega)) (HGo.out _ (by omega))]; exact HA6.out
          have his : (atT n g m C tt).1.is = true := by rw [e1, HHH.out]; show ((c : Int) != 0) = true; simp; omega
          have hNw : NewAt n m f g C tt wd := ⟨by rw [e1], by rw [e1], fun j hj => by
            rw [HGo.out j (by omega), HF2.out, putF_ne (by omega), HFl.out, layF_out (by omega) (by omega) (by omega)]⟩
          have hrf : ∀ x, x ∈ refsOf g tt (objP (atT n g m C tt)).1.refs.toNat → x = 0 := fun x hx => by
            rw [objP_obj (by rw [e1]) his, e1] at hx
            unfold refsOf at hx
            obtain ⟨i, hi, rfl⟩ := List.mem_map.1 hx
            have hi := List.mem_range.1 hi
            dsimp only at hi
            rw [HGo.out _ (by omega), HF2.out, putF_ne (by omega), HFl.out]
            exact layF_in (by omega) (by omega) (by omega)
          obtain ⟨hinv, hfull⟩ := HI.out.objs HSt.out.tb.ok hk3 HTT.out hNw (by omega) (by rw [HTE.out]; omega) HGi.out his hrf
          have os := Touch.set (Only.refl gs w9) (k * 3 + 1) (.int .i64 (tt + wd))
          have hA9 : ∀ b off, A = some ⟨b, off, none⟩ → ¬ (b = xb ∨ av.ownBlock = some b) := fun b off e h => by
            have := n8 b off e
            rcases h with h | h
            · omega
            · have := HLow.out b h; omega
          refine ⟨true, g, upT L k wd, addG G k tt, ats ++ [tt], av', rfl, ⟨((HSg.out.touch HO9.out (fun h => ?_) (fun h => ?_) (fun h => ?_) hA9).touch os (Ne.symm n6) (Ne.symm n2) (Ne.symm n7) (fun b off e => (n8 b off e).2.1)), BL.other HB9.out (by show xb ≠ gs; exact Ne.symm n3) _, ?_, H9.out.touch os (fun kk e h => by have := (H9.out.lt kk e).1; omega), hinv⟩, fun _ => ⟨tt, rfl⟩, fun hh => (by cases hh), fun j => ⟨(upT_f L k wd j).1, (upT_f L k wd j).2.1⟩, HOw9.out, fun _ hF => hfull hF, TW⟩
          · rcases h with h | h
            · omega
            · have := HLow.out _ h; omega
          · rcases h with h | h
            · omega
            · have := HLow.out _ h; omega
          · rcases h with h | h
            · omega
            · have := HLow.out _ h; omega
          · rw [← HU]; exact (HN8.out.set1 (tt + wd)).at_touch (Touch.refl (fun _ => False) _) (fun h => h) (by simp)

end Go.Proofs.YtkjgfblkbjlohaaGreat
