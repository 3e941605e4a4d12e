/- Layer 6, the document's: Size, Shape, Head of what is there. -/
import Derived.Test.YtkjgfblkbjlohaaGreatG21
import Derived.Test.YtkjgfblkbjlohaaGreatG24
set_option linter.all false

namespace Go.Proofs.YtkjgfblkbjlohaaGreat
open Go.RowKit

theorem rsize_ok (pa n : Nat) (W : Nat → Int) (wad : Option Addr) (wcp : Nat) (A : Option Addr) (m cap : Nat) (C : Nat → Cl) (w : World) (h : RSt w pa n W wad wcp A m C) (a : Int) (hq : (atT n W m C a).2 = 0) :
    Calls Tryz.prog 41 #[rstV pa A m cap, .int .i64 a] w fun e w' => e = .returned (.tuple #[.int .i64 (atT n W m C a).1.words, .bool (atT n W m C a).1.is, .int .i64 0]) ∧ Keeps w w' := by
  obtain ⟨hT, hok, hc⟩ := at_cases hq
  obtain ⟨t1, t2, t3, t4⟩ := thB_true.1 hT
  obtain ⟨p, rfl⟩ : ∃ p : Nat, a = p := ⟨a.toNat, by omega⟩
  simp only [Int.toNat_natCast] at hok hc
  rw [show ((p : Int) + 1).toNat = p + 1 by omega] at hc
  rcases hc with ⟨h1, h2, h3⟩ | ⟨h1, h2, h3, h4, h5, h6⟩ | ⟨h1, h2, h3, h4, h5⟩
  · rw [h3]
    have := rsize_gap1 pa n W wad wcp A m cap C w h p (p + 1) (by omega) (by omega) (by omega) hok h1 h2
    unfold Th.is
    dsimp only
    rw [h1]
    exact this
  · obtain ⟨t5, t6, t7, t8⟩ := thB_true.1 h5
    rw [h6]
    have := rsize_gap pa n W wad wcp A m cap C w h p (p + 1) (by omega) (by omega) (by omega) hok h1 h2 (by omega) h4 (by omega)
    unfold Th.is
    dsimp only
    rw [h1]
    exact this
  · obtain ⟨t5, t6, t7, t8⟩ := thB_true.1 h4
    have hb := at_ok h.ok hq
    rw [h5] at hb ⊢
    obtain ⟨k1, k2, k3, k4, k5, k6, k7, k8⟩ := hb
    have := rsize_obj pa n W wad wcp A m cap C w h p (p + 1) (by omega) (by omega) (by omega) hok h1 (by omega) h3 k4 k5 k6 k7 (by omega)
    unfold Th.is
    dsimp only
    rw [show ((rawH (W p)).cls != 0) = true by simpa using h1]
    exact this

set_option maxHeartbeats 1000000 in
theorem rshape_ok (pa n : Nat) (W : Nat → Int) (wad : Option Addr) (wcp : Nat) (A : Option Addr) (m cap : Nat) (C : Nat → Cl) (w : World) (h : RSt w pa n W wad wcp A m C) (a : Int) (hq : (objP (atT n W m C a)).2 = 0) :
    Calls Tryz.prog 44 #[rstV pa A m cap, .int .i64 a] w fun e w' => e = .returned (.tuple #[.int .i64 (objP (atT n W m C a)).1.refs, .int .i64 (objP (atT n W m C a)).1.data, .int .i64 0]) ∧ Keeps w w' := by
  obtain ⟨he, hq2, his⟩ := obj_zero hq
  obtain ⟨hT, hok, hc⟩ := at_cases hq2
  obtain ⟨t1, t2, t3, t4⟩ := thB_true.1 hT
  obtain ⟨p, rfl⟩ : ∃ p : Nat, a = p := ⟨a.toNat, by omega⟩
  have HSz := Lib.hid (show ∀ w', Keeps w w' → Calls Tryz.prog 41 #[rstV pa A m cap, .int .i64 p] w' fun e w2 => e = .returned (.tuple #[.int .i64 (atT n W m C p).1.words, .bool true, .int .i64 0]) ∧ Keeps w' w2 from fun w' k => by
    have hh := rsize_ok pa n W wad wcp A m cap C w' (h.keep k) p hq2
    rw [his] at hh
    exact hh)
  simp only [Int.toNat_natCast] at hok hc
  rw [show ((p : Int) + 1).toNat = p + 1 by omega] at hc
  have HO := Lib.hid (fun w' => rof_ok (W p) w' hok)
  have hc3 : (rawH (W p)).cls ≠ 0 ∧ ((p : Int) + 1 < n) ∧ shE C m (rawH (W p)).cls (W (p + 1)) = 0 ∧ atT n W m C p = (⟨rawH (W p), shR C m (rawH (W p)).cls (W (p + 1)), shD C m (rawH (W p)).cls (W (p + 1)), 2 + shR C m (rawH (W p)).cls (W (p + 1)) + shD C m (rawH (W p)).cls (W (p + 1))⟩, 0) := by
    rcases hc with ⟨h1, h2, h3⟩ | ⟨h1, h2, h3, h4, h5, h6⟩ | ⟨h1, h2, h3, h4, h5⟩
    · rw [h3] at his; unfold Th.is at his; dsimp only at his; rw [h1] at his; exact absurd his (by decide)
    · rw [h6] at his; unfold Th.is at his; dsimp only at his; rw [h1] at his; exact absurd his (by decide)
    · exact ⟨h1, h2, h3, h5⟩
  obtain ⟨c1, c2, c3, c4⟩ := hc3
  rw [he, c4]
  clear hc he hq hq2 his hT
  rw [c4] at HSz
  dsimp only at HSz ⊢
  have HSh := Lib.hid (show ∀ w', Keeps w w' → Calls Tryz.prog 56 #[.slice A m cap, .int .i64 (rawH (W p)).cls, .int .i64 (W (p + 1))] w' fun e w2 => e = .returned (.tuple #[.int .i64 (shR C m (rawH (W p)).cls (W (p + 1))), .int .i64 (shD C m (rawH (W p)).cls (W (p + 1))), .int .i64 0]) ∧ Keeps w' w2 from fun w' k => by
    have hh := rshape_any A m cap C w' (h.cls.keep k) h.ok (by have := h.le; omega) (rawH (W p)).cls (W (p + 1))
    rw [c3] at hh
    exact hh)
  have hsz := h.sz
  generalize hpq : p + 1 = q at *
  have hq1 : (p : Int) + 1 = q := by omega
  have hqn : q < n := by omega
  have hpn : p < n := by omega
  have g1 : IntKind.i64.wrap ((p : Int) + 1) = q := by rw [IntWalk.i64_in _ ⟨by omega, by omega⟩]; exact hq1
  obtain ⟨bw, off, rfl, d0⟩ := h.row.one hpn
  obtain ⟨bw', off', he2, d2⟩ := h.row.one hqn
  simp only [Option.some.injEq, Addr.mk.injEq, and_true] at he2
  obtain ⟨rfl, rfl⟩ := he2
  have hptr := h.ptr
  have d1 : w.cell? ⟨bw, off + p, none⟩ = some (.int .i64 (W p)) := d0
  have d3 : w.cell? ⟨bw, off + q, none⟩ = some (.int .i64 (W q)) := d2
  clear d0 d2 h hok c1 c2 c3 c4 hpq hq1
  have K0 := Touch.refl (fun _ => False) w
  generalize 2 + shR C m (rawH (W p)).cls (W q) + shD C m (rawH (W p)).cls (W q) = kk at *
  generalize shR C m (rawH (W p)).cls (W q) = r at *
  generalize shD C m (rawH (W p)).cls (W q) = d at *
  generalize rawH (W p) = H at *
  obtain ⟨c, ag, fw, mk, fi, dn⟩ := H
  unfold rstV hdV at *
  dsimp only at *
  go_enter Tryz.func44, Tryz.ntmps44
  go_wp2_with fail
  refine named (fun W1 hW1 => ?_)
  have KW1 : Keeps w W1 := by rw [hW1]; exact (K0.alloc _)
  have BW1_S : BL W1 (w.heap.size) 42 [.pointer (some ⟨pa, 0, none⟩), .slice A m cap] := by rw [hW1]; exact (BL.new1 _ _ _ [.pointer (some ⟨pa, 0, none⟩), .slice A m cap] _ (by simp) rfl)
  have zW1 : w.heap.size + 1 ≤ W1.heap.size := by rw [hW1]; simp
  clear K0 hW1
  have l2 := BW1_S.lt
  have c3 : W1.cell? ⟨w.heap.size, 0, none⟩ = some (.pointer (some ⟨pa, 0, none⟩)) := BW1_S.c 0 _ rfl
  have c4 : W1.cell? ⟨w.heap.size, 1, none⟩ = some (.slice A m cap) := BW1_S.c 1 _ rfl
  have hptrW1 := cell_keep hptr KW1
  have d1W1 := cell_keep d1 KW1
  have d3W1 := cell_keep d3 KW1
  have plW1 : pa < W1.heap.size := block_lt_of_cell hptrW1
  have blW1 : bw < W1.heap.size := block_lt_of_cell d1W1
  refine Calls.mono (HSz.out _ KW1) ?_
  rintro e w5 ⟨rfl, kw5⟩
  have Kw5 := Keeps.trans KW1 kw5
  have Bw5_S := BL.keep BW1_S kw5
  have zw5 := kw5.size
  clear l2 c3 c4 hptrW1 d1W1 d3W1 plW1 blW1 BW1_S KW1 kw5
  have l6 := Bw5_S.lt
  have c7 : w5.cell? ⟨w.heap.size, 0, none⟩ = some (.pointer (some ⟨pa, 0, none⟩)) := Bw5_S.c 0 _ rfl
  have c8 : w5.cell? ⟨w.heap.size, 1, none⟩ = some (.slice A m cap) := Bw5_S.c 1 _ rfl
  have hptrw5 := cell_keep hptr Kw5
  have d1w5 := cell_keep d1 Kw5
  have d3w5 := cell_keep d3 Kw5
  have plw5 : pa < w5.heap.size := block_lt_of_cell hptrw5
  have blw5 : bw < w5.heap.size := block_lt_of_cell d1w5
  go_wp2_with fail
  refine Calls.mono (HO.out _) ?_
  rintro e w9 ⟨rfl, kw9⟩
  have Kw9 := Keeps.trans Kw5 kw9
  have Bw9_S := BL.keep Bw5_S kw9
  have zw9 := kw9.size
  clear l6 c7 c8 hptrw5 d1w5 d3w5 plw5 blw5 Bw5_S Kw5 kw9
  have l10 := Bw9_S.lt
  have c11 : w9.cell? ⟨w.heap.size, 0, none⟩ = some (.pointer (some ⟨pa, 0, none⟩)) := Bw9_S.c 0 _ rfl
  have c12 : w9.cell? ⟨w.heap.size, 1, none⟩ = some (.slice A m cap) := Bw9_S.c 1 _ rfl
  have hptrw9 := cell_keep hptr Kw9
  have d1w9 := cell_keep d1 Kw9
  have d3w9 := cell_keep d3 Kw9
  have plw9 : pa < w9.heap.size := block_lt_of_cell hptrw9
  have blw9 : bw < w9.heap.size := block_lt_of_cell d1w9
  go_wp2_with fail
  refine named_code (fun W13 hW13 => ?_)
  have KW13 : Keeps w W13 := by rw [hW13]; exact (Kw9.alloc _)
  have BW13_S : BL W13 (w.heap.size) 42 [.pointer (some ⟨pa, 0, none⟩), .slice A m cap] := by rw [hW13]; exact (BL.alloc Bw9_S _)
  have BW13_H : BL W13 (w9.heap.size) 103 [.int .i64 c, .int .i64 ag, .int .i64 fw, .bool mk, .bool fi, .bool dn] := by rw [hW13]; exact (BL.new1 _ _ _ [.int .i64 c, .int .i64 ag, .int .i64 fw, .bool mk, .bool fi, .bool dn] _ (by simp) rfl)
  have zW13 : w9.heap.size + 1 ≤ W13.heap.size := by rw [hW13]; simp
  clear l10 c11 c12 hptrw9 d1w9 d3w9 plw9 blw9 Bw9_S Kw9 hW13
  have l14 := BW13_S.lt
  have l15 := BW13_H.lt
  have c16 : W13.cell? ⟨w.heap.size, 0, none⟩ = some (.pointer (some ⟨pa, 0, none⟩)) := BW13_S.c 0 _ rfl
  have c17 : W13.cell? ⟨w.heap.size, 1, none⟩ = some (.slice A m cap) := BW13_S.c 1 _ rfl
  have c18 : W13.cell? ⟨w9.heap.size, 0, none⟩ = some (.int .i64 c) := BW13_H.c 0 _ rfl
  have hptrW13 := cell_keep hptr KW13
  have d1W13 := cell_keep d1 KW13
  have d3W13 := cell_keep d3 KW13
  have plW13 : pa < W13.heap.size := block_lt_of_cell hptrW13
  have blW13 : bw < W13.heap.size := block_lt_of_cell d1W13
  refine wp_region_noPanic ?_
  refine wp_region_held_drew (S := (fun w' => Keeps W13 w')) (by kernel_rfl) (Touch.refl _ W13).drew (fun hHeld => ?_)
  refine' wpAnyH_take (i := 0) ?hi0_1 ?hs0_1 ?hf0_1 ?hr0_1 ?hQ0_1 ?hy0_1 (by assumption) ?rest0_1
  case hi0_1 => simp only [List.getElem?_toArray, List.getElem?_cons_zero] <;> rfl
  case hs0_1 => kernel_rfl
  case hf0_1 => kernel_rfl
  case hr0_1 => kernel_rfl
  case hQ0_1 => exact fun _ _ _ h => h
  case hy0_1 => exact Or.inl ⟨by rfl, fun w hSw => by have q0 := cell_keep c16 hSw; have q1 := cell_keep c17 hSw; have q2 := cell_keep c18 hSw; have q3 := cell_keep hptrW13 hSw; have q4 := cell_keep d1W13 hSw; have q5 := cell_keep d3W13 hSw; go_simp <;> (try with_reducible rfl)⟩
  simp only [Act.put, List.setIfInBounds_toArray, List.set_cons_zero, List.set_cons_succ]
  refine' wpAnyH_take (i := 1) ?hi1_1 ?hs1_1 ?hf1_1 ?hr1_1 ?hQ1_1 ?hy1_1 (by assumption) ?rest1_1
  case hi1_1 => simp only [List.getElem?_toArray, List.getElem?_cons_succ, List.getElem?_cons_zero] <;> rfl
  case hs1_1 => kernel_rfl
  case hf1_1 => kernel_rfl
  case hr1_1 => kernel_rfl
  case hQ1_1 => exact fun _ _ _ h => h
  case hy1_1 => exact Or.inl ⟨by rfl, fun w hSw => by have q0 := cell_keep c16 hSw; have q1 := cell_keep c17 hSw; have q2 := cell_keep c18 hSw; have q3 := cell_keep hptrW13 hSw; have q4 := cell_keep d1W13 hSw; have q5 := cell_keep d3W13 hSw; go_simp <;> (try with_reducible rfl)⟩
  simp only [Act.put, List.setIfInBounds_toArray, List.set_cons_zero, List.set_cons_succ]
  refine' wpAnyH_take (i := 2) ?hi2_1 ?hs2_1 ?hf2_1 ?hr2_1 ?hQ2_1 ?hy2_1 (by assumption) ?rest2_1
  case hi2_1 => simp only [List.getElem?_toArray, List.getElem?_cons_succ, List.getElem?_cons_zero] <;> rfl
  case hs2_1 => kernel_rfl
  case hf2_1 => kernel_rfl
  case hr2_1 => kernel_rfl
  case hQ2_1 => exact fun _ _ _ h => h
  case hy2_1 => exact Or.inl ⟨by rfl, fun w hSw => by have q0 := cell_keep c16 hSw; have q1 := cell_keep c17 hSw; have q2 := cell_keep c18 hSw; have q3 := cell_keep hptrW13 hSw; have q4 := cell_keep d1W13 hSw; have q5 := cell_keep d3W13 hSw; go_simp <;> (try with_reducible rfl)⟩
  simp only [Act.put, List.setIfInBounds_toArray, List.set_cons_zero, List.set_cons_succ]
  refine' wpAnyH_take (i := 3) ?hi3_1 ?hs3_1 ?hf3_1 ?hr3_1 ?hQ3_1 ?hy3_1 (by assumption) ?rest3_1
  case hi3_1 => simp only [List.getElem?_toArray, List.getElem?_cons_succ, List.getElem?_cons_zero] <;> rfl
  case hs3_1 => kernel_rfl
  case hf3_1 => kernel_rfl
  case hr3_1 => kernel_rfl
  case hQ3_1 => exact fun _ _ _ h => h
  case hy3_1 => exact Or.inl ⟨by rfl, fun w hSw => by have q0 := cell_keep c16 hSw; have q1 := cell_keep c17 hSw; have q2 := cell_keep c18 hSw; have q3 := cell_keep hptrW13 hSw; have q4 := cell_keep d1W13 hSw; have q5 := cell_keep d3W13 hSw; go_simp <;> (try with_reducible rfl)⟩
  simp only [Act.put, List.setIfInBounds_toArray, List.set_cons_zero, List.set_cons_succ]
  refine' wpAnyH_take (i := 4) ?hi4_1 ?hs4_1 ?hf4_1 ?hr4_1 ?hQ4_1 ?hy4_1 (by assumption) ?rest4_1
  case hi4_1 => simp only [List.getElem?_toArray, List.getElem?_cons_succ, List.getElem?_cons_zero] <;> rfl
  case hs4_1 => kernel_rfl
  case hf4_1 => kernel_rfl
  case hr4_1 => kernel_rfl
  case hQ4_1 => exact fun _ _ _ h => h
  case hy4_1 => exact Or.inl ⟨by rfl, fun w hSw => by have q0 := cell_keep c16 hSw; have q1 := cell_keep c17 hSw; have q2 := cell_keep c18 hSw; have q3 := cell_keep hptrW13 hSw; have q4 := cell_keep d1W13 hSw; have q5 := cell_keep d3W13 hSw; go_simp <;> (try with_reducible rfl)⟩
  simp only [Act.put, List.setIfInBounds_toArray, List.set_cons_zero, List.set_cons_succ]
  refine' wpAnyH_take (i := 5) ?hi5_1 ?hs5_1 ?hf5_1 ?hr5_1 ?hQ5_1 ?hy5_1 (by assumption) ?rest5_1
  case hi5_1 => simp only [List.getElem?_toArray, List.getElem?_cons_succ, List.getElem?_cons_zero] <;> rfl
  case hs5_1 => kernel_rfl
  case hf5_1 => kernel_rfl
  case hr5_1 => kernel_rfl
  case hQ5_1 => exact fun _ _ _ h => h
  case hy5_1 => exact Or.inl ⟨by rfl, fun w hSw => by have q0 := cell_keep c16 hSw; have q1 := cell_keep c17 hSw; have q2 := cell_keep c18 hSw; have q3 := cell_keep hptrW13 hSw; have q4 := cell_keep d1W13 hSw; have q5 := cell_keep d3W13 hSw; go_simp <;> (try with_reducible rfl)⟩
  simp only [Act.put, List.setIfInBounds_toArray, List.set_cons_zero, List.set_cons_succ]
  refine' wpAnyH_take (i := 6) ?hi6_1 ?hs6_1 ?hf6_1 ?hr6_1 ?hQ6_1 ?hy6_1 (by assumption) ?rest6_1
  case hi6_1 => simp only [List.getElem?_toArray, List.getElem?_cons_succ, List.getElem?_cons_zero] <;> rfl
  case hs6_1 => kernel_rfl
  case hf6_1 => kernel_rfl
  case hr6_1 => kernel_rfl
  case hQ6_1 => exact fun _ _ _ h => h
  case hy6_1 => exact Or.inl ⟨by rfl, fun w hSw => by have q0 := cell_keep c16 hSw; have q1 := cell_keep c17 hSw; have q2 := cell_keep c18 hSw; have q3 := cell_keep hptrW13 hSw; have q4 := cell_keep d1W13 hSw; have q5 := cell_keep d3W13 hSw; go_simp <;> (try with_reducible rfl)⟩
  simp only [Act.put, List.setIfInBounds_toArray, List.set_cons_zero, List.set_cons_succ]
  refine' wpAnyH_take (i := 7) ?hi7_1 ?hs7_1 ?hf7_1 ?hr7_1 ?hQ7_1 ?hy7_1 (by assumption) ?rest7_1
  case hi7_1 => simp only [List.getElem?_toArray, List.getElem?_cons_succ, List.getElem?_cons_zero] <;> rfl
  case hs7_1 => kernel_rfl
  case hf7_1 => kernel_rfl
  case hr7_1 => kernel_rfl
  case hQ7_1 => exact fun _ _ _ h => h
  case hy7_1 => exact Or.inl ⟨by rfl, fun w hSw => by have q0 := cell_keep c16 hSw; have q1 := cell_keep c17 hSw; have q2 := cell_keep c18 hSw; have q3 := cell_keep hptrW13 hSw; have q4 := cell_keep d1W13 hSw; have q5 := cell_keep d3W13 hSw; go_simp <;> (try with_reducible rfl)⟩
  simp only [Act.put, List.setIfInBounds_toArray, List.set_cons_zero, List.set_cons_succ]
  refine' wpAnyH_take (i := 8) ?hi8_1 ?hs8_1 ?hf8_1 ?hr8_1 ?hQ8_1 ?hy8_1 (by assumption) ?rest8_1
  case hi8_1 => simp only [List.getElem?_toArray, List.getElem?_cons_succ, List.getElem?_cons_zero] <;> rfl
  case hs8_1 => kernel_rfl
  case hf8_1 => kernel_rfl
  case hr8_1 => kernel_rfl
  case hQ8_1 => exact fun _ _ _ h => h
  case hy8_1 => exact Or.inl ⟨by rfl, fun w hSw => by have q0 := cell_keep c16 hSw; have q1 := cell_keep c17 hSw; have q2 := cell_keep c18 hSw; have q3 := cell_keep hptrW13 hSw; have q4 := cell_keep d1W13 hSw; have q5 := cell_keep d3W13 hSw; go_simp <;> (try with_reducible rfl)⟩
  simp only [Act.put, List.setIfInBounds_toArray, List.set_cons_zero, List.set_cons_succ]
  refine' wpAnyH_take (i := 9) ?hi9_1 ?hs9_1 ?hf9_1 ?hr9_1 ?hQ9_1 ?hy9_1 (by assumption) ?rest9_1
  case hi9_1 => simp only [List.getElem?_toArray, List.getElem?_cons_succ, List.getElem?_cons_zero] <;> rfl
  case hs9_1 => kernel_rfl
  case hf9_1 => kernel_rfl
  case hr9_1 => kernel_rfl
  case hQ9_1 => exact fun _ _ _ h => h
  case hy9_1 => exact Or.inl ⟨by rfl, fun w hSw => by have q0 := cell_keep c16 hSw; have q1 := cell_keep c17 hSw; have q2 := cell_keep c18 hSw; have q3 := cell_keep hptrW13 hSw; have q4 := cell_keep d1W13 hSw; have q5 := cell_keep d3W13 hSw; go_simp <;> (try with_reducible rfl)⟩
  simp only [Act.put, List.setIfInBounds_toArray, List.set_cons_zero, List.set_cons_succ]
  refine' wpAnyH_take (i := 10) ?hi10_1 ?hs10_1 ?hf10_1 ?hr10_1 ?hQ10_1 ?hy10_1 (by assumption) ?rest10_1
  case hi10_1 => simp only [List.getElem?_toArray, List.getElem?_cons_succ, List.getElem?_cons_zero] <;> rfl
  case hs10_1 => kernel_rfl
  case hf10_1 => kernel_rfl
  case hr10_1 => kernel_rfl
  case hQ10_1 => exact fun _ _ _ h => h
  case hy10_1 => exact Or.inl ⟨by rfl, fun w hSw => by have q0 := cell_keep c16 hSw; have q1 := cell_keep c17 hSw; have q2 := cell_keep c18 hSw; have q3 := cell_keep hptrW13 hSw; have q4 := cell_keep d1W13 hSw; have q5 := cell_keep d3W13 hSw; go_simp <;> (try with_reducible rfl)⟩
  simp only [Act.put, List.setIfInBounds_toArray, List.set_cons_zero, List.set_cons_succ]
  refine' wpAnyH_take (i := 11) ?hi11_1 ?hs11_1 ?hf11_1 ?hr11_1 ?hQ11_1 ?hy11_1 (by assumption) ?rest11_1
  case hi11_1 => simp only [List.getElem?_toArray, List.getElem?_cons_succ, List.getElem?_cons_zero] <;> rfl
  case hs11_1 => kernel_rfl
  case hf11_1 => kernel_rfl
  case hr11_1 => kernel_rfl
  case hQ11_1 => exact fun _ _ _ h => h
  case hy11_1 => exact Or.inl ⟨by rfl, fun w hSw => by have q0 := cell_keep c16 hSw; have q1 := cell_keep c17 hSw; have q2 := cell_keep c18 hSw; have q3 := cell_keep hptrW13 hSw; have q4 := cell_keep d1W13 hSw; have q5 := cell_keep d3W13 hSw; go_simp <;> (try with_reducible rfl)⟩
  simp only [Act.put, List.setIfInBounds_toArray, List.set_cons_zero, List.set_cons_succ]
  refine' wpAnyH_take (i := 12) ?hi12_1 ?hs12_1 ?hf12_1 ?hr12_1 ?hQ12_1 ?hy12_1 (by assumption) ?rest12_1
  case hi12_1 => simp only [List.getElem?_toArray, List.getElem?_cons_succ, List.getElem?_cons_zero] <;> rfl
  case hs12_1 => kernel_rfl
  case hf12_1 => kernel_rfl
  case hr12_1 => kernel_rfl
  case hQ12_1 => exact fun _ _ _ h => h
  case hy12_1 => exact Or.inl ⟨by rfl, fun w hSw => by have q0 := cell_keep c16 hSw; have q1 := cell_keep c17 hSw; have q2 := cell_keep c18 hSw; have q3 := cell_keep hptrW13 hSw; have q4 := cell_keep d1W13 hSw; have q5 := cell_keep d3W13 hSw; go_simp <;> (try with_reducible rfl)⟩
  simp only [Act.put, List.setIfInBounds_toArray, List.set_cons_zero, List.set_cons_succ]
  refine wpAnyH_ready (rs := [13]) (by kernel_rfl) (by simp) ?_
  refine AllReadyH.cons rfl (fun K hK => ?_) AllReadyH.nil
  go_simp
  with_reducible refine Calls.mono (HSh.out _ (Keeps.trans KW13 hHeld)) ?_
  rintro e wz ⟨rfl, kz⟩
  go_wp2_with fail
  refine hK.out _ _ (hHeld.trans kz) (fun hHeld => ?_)
  clear hK K
  refine' wpAnyH_take (i := 14) ?hi14_1 ?hs14_1 ?hf14_1 ?hr14_1 ?hQ14_1 ?hy14_1 (by assumption) ?rest14_1
  case hi14_1 => simp only [List.getElem?_toArray, List.getElem?_cons_succ, List.getElem?_cons_zero] <;> rfl
  case hs14_1 => kernel_rfl
  case hf14_1 => kernel_rfl
  case hr14_1 => kernel_rfl
  case hQ14_1 => exact fun _ _ _ h => h
  case hy14_1 => exact Or.inl ⟨by rfl, fun w hSw => by go_simp <;> (try with_reducible rfl)⟩
  simp only [Act.put, List.setIfInBounds_toArray, List.set_cons_zero, List.set_cons_succ]
  refine' wpAnyH_take (i := 15) ?hi15_1 ?hs15_1 ?hf15_1 ?hr15_1 ?hQ15_1 ?hy15_1 (by assumption) ?rest15_1
  case hi15_1 => simp only [List.getElem?_toArray, List.getElem?_cons_succ, List.getElem?_cons_zero] <;> rfl
  case hs15_1 => kernel_rfl
  case hf15_1 => kernel_rfl
  case hr15_1 => kernel_rfl
  case hQ15_1 => exact fun _ _ _ h => h
  case hy15_1 => exact Or.inl ⟨by rfl, fun w hSw => by go_simp <;> (try with_reducible rfl)⟩
  simp only [Act.put, List.setIfInBounds_toArray, List.set_cons_zero, List.set_cons_succ]
  refine' wpAnyH_take (i := 16) ?hi16_1 ?hs16_1 ?hf16_1 ?hr16_1 ?hQ16_1 ?hy16_1 (by assumption) ?rest16_1
  case hi16_1 => simp only [List.getElem?_toArray, List.getElem?_cons_succ, List.getElem?_cons_zero] <;> rfl
  case hs16_1 => kernel_rfl
  case hf16_1 => kernel_rfl
  case hr16_1 => kernel_rfl
  case hQ16_1 => exact fun _ _ _ h => h
  case hy16_1 => exact Or.inl ⟨by rfl, fun w hSw => by go_simp <;> (try with_reducible rfl)⟩
  simp only [Act.put, List.setIfInBounds_toArray, List.set_cons_zero, List.set_cons_succ]
  refine' wpAnyH_take (i := 17) ?hi17_1 ?hs17_1 ?hf17_1 ?hr17_1 ?hQ17_1 ?hy17_1 (by assumption) ?rest17_1
  case hi17_1 => simp only [List.getElem?_toArray, List.getElem?_cons_succ, List.getElem?_cons_zero] <;> rfl
  case hs17_1 => kernel_rfl
  case hf17_1 => kernel_rfl
  case hr17_1 => kernel_rfl
  case hQ17_1 => exact fun _ _ _ h => h
  case hy17_1 => exact Or.inl ⟨by rfl, fun w hSw => by go_simp <;> (try with_reducible rfl)⟩
  simp only [Act.put, List.setIfInBounds_toArray, List.set_cons_zero, List.set_cons_succ]
  refine' wpAnyH_take (i := 18) ?hi18_1 ?hs18_1 ?hf18_1 ?hr18_1 ?hQ18_1 ?hy18_1 (by assumption) ?rest18_1
  case hi18_1 => simp only [List.getElem?_toArray, List.getElem?_cons_succ, List.getElem?_cons_zero] <;> rfl
  case hs18_1 => kernel_rfl
  case hf18_1 => kernel_rfl
  case hr18_1 => kernel_rfl
  case hQ18_1 => exact fun _ _ _ h => h
  case hy18_1 => exact Or.inl ⟨by rfl, fun w hSw => by go_simp <;> (try with_reducible rfl)⟩
  simp only [Act.put, List.setIfInBounds_toArray, List.set_cons_zero, List.set_cons_succ]
  refine' wpAnyH_take (i := 19) ?hi19_1 ?hs19_1 ?hf19_1 ?hr19_1 ?hQ19_1 ?hy19_1 (by assumption) ?rest19_1
  case hi19_1 => simp only [List.getElem?_toArray, List.getElem?_cons_succ, List.getElem?_cons_zero] <;> rfl
  case hs19_1 => kernel_rfl
  case hf19_1 => kernel_rfl
  case hr19_1 => kernel_rfl
  case hQ19_1 => exact fun _ _ _ h => h
  case hy19_1 => exact Or.inl ⟨by rfl, fun w hSw => by go_simp <;> (try with_reducible rfl)⟩
  simp only [Act.put, List.setIfInBounds_toArray, List.set_cons_zero, List.set_cons_succ]
  refine' wpAnyH_take (i := 20) ?hi20_1 ?hs20_1 ?hf20_1 ?hr20_1 ?hQ20_1 ?hy20_1 (by assumption) ?rest20_1
  case hi20_1 => simp only [List.getElem?_toArray, List.getElem?_cons_succ, List.getElem?_cons_zero] <;> rfl
  case hs20_1 => kernel_rfl
  case hf20_1 => kernel_rfl
  case hr20_1 => kernel_rfl
  case hQ20_1 => exact fun _ _ _ h => h
  case hy20_1 => exact Or.inl ⟨by rfl, fun w hSw => by go_simp <;> (try with_reducible rfl)⟩
  simp only [Act.put, List.setIfInBounds_toArray, List.set_cons_zero, List.set_cons_succ]
  refine wpAnyH_done (by kernel_rfl) ?_ _
  refine NoPanic.normal ?_
  go_wp2_with fail
  go_returns
  exact ⟨rfl, Keeps.trans KW13 hHeld⟩

set_option maxHeartbeats 1000000 in
theorem rhead_ok (pa n : Nat) (W : Nat → Int) (wad : Option Addr) (wcp : Nat) (A : Option Addr) (m cap : Nat) (C : Nat → Cl) (w : World) (h : RSt w pa n W wad wcp A m C) (a : Int) (hq : (objP (atT n W m C a)).2 = 0) :
    Calls Tryz.prog 45 #[rstV pa A m cap, .int .i64 a] w fun e w' => e = .returned (.tuple #[hdV (objP (atT n W m C a)).1.hd, .int .i64 0]) ∧ Keeps w w' := by
  have hsh := rshape_ok pa n W wad wcp A m cap C
  have HShp := Lib.hid (show ∀ w', Keeps w w' → Calls Tryz.prog 44 #[rstV pa A m cap, .int .i64 a] w' fun e w2 => (∃ x y, e = .returned (.tuple #[.int .i64 x, .int .i64 y, .int .i64 0])) ∧ Keeps w' w2 from fun w' k => (hsh w' (h.keep k) a hq).mono (fun _ _ hh => ⟨⟨_, _, hh.1⟩, hh.2⟩))
  clear hsh
  obtain ⟨he, hq2, his⟩ := obj_zero hq
  obtain ⟨hT, hok, hc⟩ := at_cases hq2
  obtain ⟨t1, t2, t3, t4⟩ := thB_true.1 hT
  obtain ⟨p, rfl⟩ : ∃ p : Nat, a = p := ⟨a.toNat, by omega⟩
  have HSz := Lib.hid (show ∀ w', Keeps w w' → Calls Tryz.prog 41 #[rstV pa A m cap, .int .i64 p] w' fun e w2 => e = .returned (.tuple #[.int .i64 (atT n W m C p).1.words, .bool true, .int .i64 0]) ∧ Keeps w' w2 from fun w' k => by
    have hh := rsize_ok pa n W wad wcp A m cap C w' (h.keep k) p hq2
    rw [his] at hh
    exact hh)
  simp only [Int.toNat_natCast] at hok hc
  rw [show ((p : Int) + 1).toNat = p + 1 by omega] at hc
  have HO := Lib.hid (fun w' => rof_ok (W p) w' hok)
  have hc3 : (rawH (W p)).cls ≠ 0 ∧ ((p : Int) + 1 < n) ∧ shE C m (rawH (W p)).cls (W (p + 1)) = 0 ∧ atT n W m C p = (⟨rawH (W p), shR C m (rawH (W p)).cls (W (p + 1)), shD C m (rawH (W p)).cls (W (p + 1)), 2 + shR C m (rawH (W p)).cls (W (p + 1)) + shD C m (rawH (W p)).cls (W (p + 1))⟩, 0) := by
    rcases hc with ⟨h1, h2, h3⟩ | ⟨h1, h2, h3, h4, h5, h6⟩ | ⟨h1, h2, h3, h4, h5⟩
    · rw [h3] at his; unfold Th.is at his; dsimp only at his; rw [h1] at his; exact absurd his (by decide)
    · rw [h6] at his; unfold Th.is at his; dsimp only at his; rw [h1] at his; exact absurd his (by decide)
    · exact ⟨h1, h2, h3, h5⟩
  obtain ⟨c1, c2, c3, c4⟩ := hc3
  rw [he, c4]
  clear hc he hq hq2 his hT
  rw [c4] at HSz
  dsimp only at HSz ⊢
  have HSh := Lib.hid (show ∀ w', Keeps w w' → Calls Tryz.prog 56 #[.slice A m cap, .int .i64 (rawH (W p)).cls, .int .i64 (W (p + 1))] w' fun e w2 => e = .returned (.tuple #[.int .i64 (shR C m (rawH (W p)).cls (W (p + 1))), .int .i64 (shD C m (rawH (W p)).cls (W (p + 1))), .int .i64 0]) ∧ Keeps w' w2 from fun w' k => by
    have hh := rshape_any A m cap C w' (h.cls.keep k) h.ok (by have := h.le; omega) (rawH (W p)).cls (W (p + 1))
    rw [c3] at hh
    exact hh)
  have hsz := h.sz
  generalize hpq : p + 1 = q at *
  have hq1 : (p : Int) + 1 = q := by omega
  have hqn : q < n := by omega
  have hpn : p < n := by omega
  have g1 : IntKind.i64.wrap ((p : Int) + 1) = q := by rw [IntWalk.i64_in _ ⟨by omega, by omega⟩]; exact hq1
  obtain ⟨bw, off, rfl, d0⟩ := h.row.one hpn
  obtain ⟨bw', off', he2, d2⟩ := h.row.one hqn
  simp only [Option.some.injEq, Addr.mk.injEq, and_true] at he2
  obtain ⟨rfl, rfl⟩ := he2
  have hptr := h.ptr
  have d1 : w.cell? ⟨bw, off + p, none⟩ = some (.int .i64 (W p)) := d0
  have d3 : w.cell? ⟨bw, off + q, none⟩ = some (.int .i64 (W q)) := d2
  clear d0 d2 h hok c1 c2 c3 c4 hpq hq1
  have K0 := Touch.refl (fun _ => False) w
  generalize 2 + shR C m (rawH (W p)).cls (W q) + shD C m (rawH (W p)).cls (W q) = kk at *
  generalize shR C m (rawH (W p)).cls (W q) = r at *
  generalize shD C m (rawH (W p)).cls (W q) = d at *
  generalize rawH (W p) = H at *
  obtain ⟨c, ag, fw, mk, fi, dn⟩ := H
  unfold rstV hdV at *
  dsimp only at *
  go_enter Tryz.func45, Tryz.ntmps45
  go_wp2_with fail
  refine named (fun W1 hW1 => ?_)
  have KW1 : Keeps w W1 := by rw [hW1]; exact ((K0.alloc _).alloc _)
  have BW1_S : BL W1 (w.heap.size) 42 [.pointer (some ⟨pa, 0, none⟩), .slice A m cap] := by rw [hW1]; exact (BL.alloc (BL.new1 _ _ _ [.pointer (some ⟨pa, 0, none⟩), .slice A m cap] _ (by simp) rfl) _)
  have BW1_R : BL W1 (w.heap.size + 1) 103 [.int .i64 0, .int .i64 0, .int .i64 0, .bool false, .bool false, .bool false] := by rw [hW1]; exact (BL.new1 _ _ _ [.int .i64 0, .int .i64 0, .int .i64 0, .bool false, .bool false, .bool false] _ (by simp) rfl)
  have zW1 : w.heap.size + 2 ≤ W1.heap.size := by rw [hW1]; simp
  clear K0 hW1
  have l2 := BW1_S.lt
  have l3 := BW1_R.lt
  have c4 : W1.cell? ⟨w.heap.size, 0, none⟩ = some (.pointer (some ⟨pa, 0, none⟩)) := BW1_S.c 0 _ rfl
  have c5 : W1.cell? ⟨w.heap.size, 1, none⟩ = some (.slice A m cap) := BW1_S.c 1 _ rfl
  have hptrW1 := cell_keep hptr KW1
  have d1W1 := cell_keep d1 KW1
  have d3W1 := cell_keep d3 KW1
  have plW1 : pa < W1.heap.size := block_lt_of_cell hptrW1
  have blW1 : bw < W1.heap.size := block_lt_of_cell d1W1
  refine Calls.mono (HShp.out _ KW1) ?_
  rintro e w6 ⟨⟨x, y, rfl⟩, kw6⟩
  have Kw6 := Keeps.trans KW1 kw6
  have Bw6_S := BL.keep BW1_S kw6
  have Bw6_R := BL.keep BW1_R kw6
  have zw6 := kw6.size
  clear l2 l3 c4 c5 hptrW1 d1W1 d3W1 plW1 blW1 BW1_S BW1_R KW1 kw6
  have l7 := Bw6_S.lt
  have l8 := Bw6_R.lt
  have c9 : w6.cell? ⟨w.heap.size, 0, none⟩ = some (.pointer (some ⟨pa, 0, none⟩)) := Bw6_S.c 0 _ rfl
  have c10 : w6.cell? ⟨w.heap.size, 1, none⟩ = some (.slice A m cap) := Bw6_S.c 1 _ rfl
  have hptrw6 := cell_keep hptr Kw6
  have d1w6 := cell_keep d1 Kw6
  have d3w6 := cell_keep d3 Kw6
  have plw6 : pa < w6.heap.size := block_lt_of_cell hptrw6
  have blw6 : bw < w6.heap.size := block_lt_of_cell d1w6
  go_wp2_with fail
  refine Calls.mono (HO.out _) ?_
  rintro e w11 ⟨rfl, kw11⟩
  have Kw11 := Keeps.trans Kw6 kw11
  have Bw11_S := BL.keep Bw6_S kw11
  have Bw11_R := BL.keep Bw6_R kw11
  have zw11 := kw11.size
  clear l7 l8 c9 c10 hptrw6 d1w6 d3w6 plw6 blw6 Bw6_S Bw6_R Kw6 kw11
  have l12 := Bw11_S.lt
  have l13 := Bw11_R.lt
  have c14 : w11.cell? ⟨w.heap.size, 0, none⟩ = some (.pointer (some ⟨pa, 0, none⟩)) := Bw11_S.c 0 _ rfl
  have c15 : w11.cell? ⟨w.heap.size, 1, none⟩ = some (.slice A m cap) := Bw11_S.c 1 _ rfl
  have c16 : w11.cell? ⟨w.heap.size + 1, 0, none⟩ = some (.int .i64 0) := Bw11_R.c 0 _ rfl
  have c17 : w11.cell? ⟨w.heap.size + 1, 1, none⟩ = some (.int .i64 0) := Bw11_R.c 1 _ rfl
  have c18 : w11.cell? ⟨w.heap.size + 1, 2, none⟩ = some (.int .i64 0) := Bw11_R.c 2 _ rfl
  have c19 : w11.cell? ⟨w.heap.size + 1, 3, none⟩ = some (.bool false) := Bw11_R.c 3 _ rfl
  have c20 : w11.cell? ⟨w.heap.size + 1, 4, none⟩ = some (.bool false) := Bw11_R.c 4 _ rfl
  have c21 : w11.cell? ⟨w.heap.size + 1, 5, none⟩ = some (.bool false) := Bw11_R.c 5 _ rfl
  have f22 := Bw11_R.fz 0
  have f23 := Bw11_R.fz 1
  have f24 := Bw11_R.fz 2
  have f25 := Bw11_R.fz 3
  have f26 := Bw11_R.fz 4
  have f27 := Bw11_R.fz 5
  have hptrw11 := cell_keep hptr Kw11
  have d1w11 := cell_keep d1 Kw11
  have d3w11 := cell_keep d3 Kw11
  have plw11 : pa < w11.heap.size := block_lt_of_cell hptrw11
  have blw11 : bw < w11.heap.size := block_lt_of_cell d1w11
  go_wp2_with (first | (refine store_bl ?_ 103 (.tmp 4) (.tmp 34) ?_ (BL.alloc Bw11_R _) ?_ [.int .i64 c, .int .i64 ag, .int .i64 fw, .bool mk, .bool fi, .bool dn] ?_ sz_rhd rfl rfl ?_; rfl; rfl; rfl; rfl; intro W28 BW28_R kW28; have KW28 := Keeps.new (Kw11.alloc _) kW28 (by show w.heap.size ≤ w.heap.size + 1; omega); have BW28_S := BL.touch (BL.alloc Bw11_S _) kW28 (by show ¬ (w.heap.size = w.heap.size + 1); omega); have zW28 : w11.heap.size + 1 ≤ W28.heap.size := Nat.le_trans (by simp) kW28.size; clear l12 l13 c14 c15 c16 c17 c18 c19 c20 c21 f22 f23 f24 f25 f26 f27 hptrw11 d1w11 d3w11 plw11 blw11 Bw11_S Bw11_R Kw11 kW28; have l29 := BW28_R.lt; have l30 := BW28_S.lt; have c31 : W28.cell? ⟨w.heap.size + 1, 0, none⟩ = some (.int .i64 c) := BW28_R.c 0 _ rfl; have c32 : W28.cell? ⟨w.heap.size + 1, 1, none⟩ = some (.int .i64 ag) := BW28_R.c 1 _ rfl; have c33 : W28.cell? ⟨w.heap.size + 1, 2, none⟩ = some (.int .i64 fw) := BW28_R.c 2 _ rfl; have c34 : W28.cell? ⟨w.heap.size + 1, 3, none⟩ = some (.bool mk) := BW28_R.c 3 _ rfl; have c35 : W28.cell? ⟨w.heap.size + 1, 4, none⟩ = some (.bool fi) := BW28_R.c 4 _ rfl; have c36 : W28.cell? ⟨w.heap.size + 1, 5, none⟩ = some (.bool dn) := BW28_R.c 5 _ rfl))
  have HE := BW28_R
  have s0 := HE.c 0 (.int .i64 c) rfl
  have s1 := HE.c 1 (.int .i64 ag) rfl
  have s2 := HE.c 2 (.int .i64 fw) rfl
  have s3 := HE.c 3 (.bool mk) rfl
  have s4 := HE.c 4 (.bool fi) rfl
  have s5 := HE.c 5 (.bool dn) rfl
  refine bodyPost_ret (v := .tuple #[.agg #[.int .i64 c, .int .i64 ag, .int .i64 fw, .bool mk, .bool fi, .bool dn], .int .i64 0]) (by simp [results, Tryz.results45, go_sem, s0, s1, s2, s3, s4, s5]) rfl ⟨rfl, KW28⟩

end Go.Proofs.YtkjgfblkbjlohaaGreat
