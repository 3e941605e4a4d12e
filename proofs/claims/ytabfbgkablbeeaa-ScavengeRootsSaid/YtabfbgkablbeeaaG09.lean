/- Layer 6, object: object, Size, Shape, Head. -/
import Derived.Test.YtabfbgkablbeeaaG08
set_option linter.all false

namespace Go.Proofs.Ytabfbgkablbeeaa
open Go.RowKit

/-- What stands there, if it is an object. -/
def objP (p : Th × Int) : Th × Int := if p.2 = 0 ∧ p.1.hd.cls = 0 then (th0, 5) else p
theorem objP_kind {p : Th × Int} (h1 : p.2 = 0) (h2 : p.1.hd.cls = 0) : objP p = (th0, 5) := if_pos ⟨h1, h2⟩
theorem objP_same {p : Th × Int} (h : ¬ (p.2 = 0 ∧ p.1.hd.cls = 0)) : objP p = p := if_neg h

set_option maxHeartbeats 1000000 in
theorem object_core (P Q : Option Addr) (a : Int) (w : World) (p : Th × Int) (hat : ∀ w', Keeps w w' → Calls Try.prog 63 #[.agg #[.pointer P, .pointer Q], .int .i64 a] w' fun e w2 => e = .returned (.tuple #[thV p.1, .int .i64 p.2]) ∧ Keeps w' w2) :
    Calls Try.prog 44 #[.agg #[.pointer P, .pointer Q], .int .i64 a] w fun e w' => e = .returned (.tuple #[thV (objP p).1, .int .i64 (objP p).2]) ∧ Keeps w w' := by
  have hz := zero_th
  have HAt := Lib.hid hat
  have HI0 := Lib.hid (fun c ag fw mk fi dn r d k w {B : Bool} (hB : (c != 0) = B) => is_at c ag fw mk fi dn r d k w hB)
  clear hat
  obtain ⟨⟨⟨c, ag, fw, mk, fi, dn⟩, r, d, k⟩, x⟩ := p
  unfold thV at *
  dsimp only at *
  go_enter Try.func44, Try.ntmps44
  go_wp2_with fail
  refine named (fun W1 hW1 => ?_)
  have KW1 : Keeps w W1 := by rw [hW1]; exact (((Touch.refl _ w).alloc _).alloc _)
  have BW1_S : BL W1 (w.heap.size) 34 [.pointer P, .pointer Q] := by rw [hW1]; exact (BL.alloc (BL.new1 _ _ _ [.pointer P, .pointer Q] _ (by simp) rfl) _)
  have BW1_R : BL W1 (w.heap.size + 1) 101 [.int .i64 0, .int .i64 0, .int .i64 0, .bool false, .bool false, .bool false, .int .i64 0, .int .i64 0, .int .i64 0] := by rw [hW1]; exact (BL.new1 _ _ _ [.int .i64 0, .int .i64 0, .int .i64 0, .bool false, .bool false, .bool false, .int .i64 0, .int .i64 0, .int .i64 0] _ (by simp) rfl)
  have zW1 : w.heap.size + 2 ≤ W1.heap.size := by rw [hW1]; simp
  clear hW1
  have l2 := BW1_S.lt
  have l3 := BW1_R.lt
  refine Calls.mono (HAt.out _ KW1) ?_
  rintro e w4 ⟨rfl, kw4⟩
  have Kw4 := Keeps.trans KW1 kw4
  have Bw4_S := BL.keep BW1_S kw4
  have Bw4_R := BL.keep BW1_R kw4
  have zw4 := kw4.size
  clear l2 l3 BW1_S BW1_R KW1 kw4
  have l5 := Bw4_S.lt
  have l6 := Bw4_R.lt
  by_cases hx : x = 0
  ·
    subst hx
    go_wp2_with fail
    refine named (fun W7 hW7 => ?_)
    have KW7 : Keeps w W7 := by rw [hW7]; exact (Kw4.alloc _)
    have BW7_S : BL W7 (w.heap.size) 34 [.pointer P, .pointer Q] := by rw [hW7]; exact (BL.alloc Bw4_S _)
    have BW7_R : BL W7 (w.heap.size + 1) 101 [.int .i64 0, .int .i64 0, .int .i64 0, .bool false, .bool false, .bool false, .int .i64 0, .int .i64 0, .int .i64 0] := by rw [hW7]; exact (BL.alloc Bw4_R _)
    have BW7_T : BL W7 (w4.heap.size) 101 [.int .i64 c, .int .i64 ag, .int .i64 fw, .bool mk, .bool fi, .bool dn, .int .i64 r, .int .i64 d, .int .i64 k] := by rw [hW7]; exact (BL.new1 _ _ _ [.int .i64 c, .int .i64 ag, .int .i64 fw, .bool mk, .bool fi, .bool dn, .int .i64 r, .int .i64 d, .int .i64 k] _ (by simp) rfl)
    have zW7 : w4.heap.size + 1 ≤ W7.heap.size := by rw [hW7]; simp
    clear l5 l6 Bw4_S Bw4_R Kw4 hW7
    have l8 := BW7_S.lt
    have l9 := BW7_R.lt
    have l10 := BW7_T.lt
    by_cases hc : c = 0
    ·
      subst hc
      have HA := Lib.hid (objP_kind (p := ⟨⟨⟨0, ag, fw, mk, fi, dn⟩, r, d, k⟩, 0⟩) rfl rfl)
      refine Calls.mono (HI0.out _ _ _ _ _ _ _ _ _ _ (B := false) rfl) ?_
      rintro e w11 ⟨rfl, kw11⟩
      have Kw11 := Keeps.trans KW7 kw11
      have Bw11_S := BL.keep BW7_S kw11
      have Bw11_R := BL.keep BW7_R kw11
      have Bw11_T := BL.keep BW7_T kw11
      have zw11 := kw11.size
      clear l8 l9 l10 BW7_S BW7_R BW7_T KW7 kw11
      have l12 := Bw11_S.lt
      have l13 := Bw11_R.lt
      have l14 := Bw11_T.lt
      go_wp2_with (first | (refine store_bl ?_ 101 (.tmp 4) (.tmp 21) ?_ Bw11_R ?_ [.int .i64 0, .int .i64 0, .int .i64 0, .bool false, .bool false, .bool false, .int .i64 0, .int .i64 0, .int .i64 0] ?_ sz_th rfl rfl ?_; rfl; rfl; rfl; rfl; intro W15 BW15_R kW15; have KW15 := Keeps.new Kw11 kW15 (by show w.heap.size ≤ w.heap.size + 1; omega); have zW15 : w11.heap.size + 0 ≤ W15.heap.size := Nat.le_trans (by simp) kW15.size; clear l12 l13 l14 Bw11_S Bw11_R Bw11_T Kw11 kW15; have l16 := BW15_R.lt))
      have HE := BW15_R
      have s0 := HE.c 0 (.int .i64 0) rfl
      have s1 := HE.c 1 (.int .i64 0) rfl
      have s2 := HE.c 2 (.int .i64 0) rfl
      have s3 := HE.c 3 (.bool false) rfl
      have s4 := HE.c 4 (.bool false) rfl
      have s5 := HE.c 5 (.bool false) rfl
      have s6 := HE.c 6 (.int .i64 0) rfl
      have s7 := HE.c 7 (.int .i64 0) rfl
      have s8 := HE.c 8 (.int .i64 0) rfl
      refine bodyPost_ret (v := .tuple #[.agg #[.int .i64 0, .int .i64 0, .int .i64 0, .bool false, .bool false, .bool false, .int .i64 0, .int .i64 0, .int .i64 0], .int .i64 5]) (by simp [results, Try.results44, go_sem, s0, s1, s2, s3, s4, s5, s6, s7, s8]) rfl ⟨?_, KW15⟩
      rw [HA.out] <;> rfl
    ·
      have HA := Lib.hid (objP_same (p := ⟨⟨⟨c, ag, fw, mk, fi, dn⟩, r, d, k⟩, 0⟩) (fun h => hc h.2))
      have hcn : (c != 0) = true := by simpa using hc
      clear hc
      refine Calls.mono (HI0.out _ _ _ _ _ _ _ _ _ _ (B := true) hcn) ?_
      rintro e w17 ⟨rfl, kw17⟩
      have Kw17 := Keeps.trans KW7 kw17
      have Bw17_S := BL.keep BW7_S kw17
      have Bw17_R := BL.keep BW7_R kw17
      have Bw17_T := BL.keep BW7_T kw17
      have zw17 := kw17.size
      clear l8 l9 l10 BW7_S BW7_R BW7_T KW7 kw17
      have l18 := Bw17_S.lt
      have l19 := Bw17_R.lt
      have l20 := Bw17_T.lt
      have c21 : w17.cell? ⟨w4.heap.size, 0, none⟩ = some (.int .i64 c) := Bw17_T.c 0 _ rfl
      have c22 : w17.cell? ⟨w4.heap.size, 1, none⟩ = some (.int .i64 ag) := Bw17_T.c 1 _ rfl
      have c23 : w17.cell? ⟨w4.heap.size, 2, none⟩ = some (.int .i64 fw) := Bw17_T.c 2 _ rfl
      have c24 : w17.cell? ⟨w4.heap.size, 3, none⟩ = some (.bool mk) := Bw17_T.c 3 _ rfl
      have c25 : w17.cell? ⟨w4.heap.size, 4, none⟩ = some (.bool fi) := Bw17_T.c 4 _ rfl
      have c26 : w17.cell? ⟨w4.heap.size, 5, none⟩ = some (.bool dn) := Bw17_T.c 5 _ rfl
      have c27 : w17.cell? ⟨w4.heap.size, 6, none⟩ = some (.int .i64 r) := Bw17_T.c 6 _ rfl
      have c28 : w17.cell? ⟨w4.heap.size, 7, none⟩ = some (.int .i64 d) := Bw17_T.c 7 _ rfl
      have c29 : w17.cell? ⟨w4.heap.size, 8, none⟩ = some (.int .i64 k) := Bw17_T.c 8 _ rfl
      go_wp2_with (first | (refine store_bl ?_ 101 (.tmp 4) (.tmp 22) ?_ Bw17_R ?_ [.int .i64 c, .int .i64 ag, .int .i64 fw, .bool mk, .bool fi, .bool dn, .int .i64 r, .int .i64 d, .int .i64 k] ?_ sz_th rfl rfl ?_; rfl; rfl; rfl; rfl; intro W30 BW30_R kW30; have KW30 := Keeps.new Kw17 kW30 (by show w.heap.size ≤ w.heap.size + 1; omega); have zW30 : w17.heap.size + 0 ≤ W30.heap.size := Nat.le_trans (by simp) kW30.size; clear l18 l19 l20 c21 c22 c23 c24 c25 c26 c27 c28 c29 Bw17_S Bw17_R Bw17_T Kw17 kW30; have l31 := BW30_R.lt))
      have HE := BW30_R
      have s0 := HE.c 0 (.int .i64 c) rfl
      have s1 := HE.c 1 (.int .i64 ag) rfl
      have s2 := HE.c 2 (.int .i64 fw) rfl
      have s3 := HE.c 3 (.bool mk) rfl
      have s4 := HE.c 4 (.bool fi) rfl
      have s5 := HE.c 5 (.bool dn) rfl
      have s6 := HE.c 6 (.int .i64 r) rfl
      have s7 := HE.c 7 (.int .i64 d) rfl
      have s8 := HE.c 8 (.int .i64 k) rfl
      refine bodyPost_ret (v := .tuple #[.agg #[.int .i64 c, .int .i64 ag, .int .i64 fw, .bool mk, .bool fi, .bool dn, .int .i64 r, .int .i64 d, .int .i64 k], .int .i64 0]) (by simp [results, Try.results44, go_sem, s0, s1, s2, s3, s4, s5, s6, s7, s8]) rfl ⟨?_, KW30⟩
      rw [HA.out] <;> rfl
  ·
    have HA := Lib.hid (objP_same (p := ⟨⟨⟨c, ag, fw, mk, fi, dn⟩, r, d, k⟩, x⟩) (fun h => hx h.1))
    have hxn : (x == 0) = false := by simpa using hx
    clear hx
    go_wp2_with (first | (refine store_bl ?_ 101 (.tmp 4) (.tmp 22) ?_ (BL.alloc Bw4_R _) ?_ [.int .i64 c, .int .i64 ag, .int .i64 fw, .bool mk, .bool fi, .bool dn, .int .i64 r, .int .i64 d, .int .i64 k] ?_ sz_th rfl rfl ?_; rfl; rfl; rfl; rfl; intro W32 BW32_R kW32; have KW32 := Keeps.new (Kw4.alloc _) kW32 (by show w.heap.size ≤ w.heap.size + 1; omega); have zW32 : w4.heap.size + 1 ≤ W32.heap.size := Nat.le_trans (by simp) kW32.size; clear l5 l6 Bw4_S Bw4_R Kw4 kW32; have l33 := BW32_R.lt))
    have HE := BW32_R
    have s0 := HE.c 0 (.int .i64 c) rfl
    have s1 := HE.c 1 (.int .i64 ag) rfl
    have s2 := HE.c 2 (.int .i64 fw) rfl
    have s3 := HE.c 3 (.bool mk) rfl
    have s4 := HE.c 4 (.bool fi) rfl
    have s5 := HE.c 5 (.bool dn) rfl
    have s6 := HE.c 6 (.int .i64 r) rfl
    have s7 := HE.c 7 (.int .i64 d) rfl
    have s8 := HE.c 8 (.int .i64 k) rfl
    refine bodyPost_ret (v := .tuple #[.agg #[.int .i64 c, .int .i64 ag, .int .i64 fw, .bool mk, .bool fi, .bool dn, .int .i64 r, .int .i64 d, .int .i64 k], .int .i64 x]) (by simp [results, Try.results44, go_sem, s0, s1, s2, s3, s4, s5, s6, s7, s8]) rfl ⟨?_, KW32⟩
    rw [HA.out] <;> rfl

set_option maxHeartbeats 1000000 in
theorem size_core (P Q : Option Addr) (a : Int) (w : World) (p : Th × Int) (hat : ∀ w', Keeps w w' → Calls Try.prog 63 #[.agg #[.pointer P, .pointer Q], .int .i64 a] w' fun e w2 => e = .returned (.tuple #[thV p.1, .int .i64 p.2]) ∧ Keeps w' w2) :
    Calls Try.prog 58 #[.agg #[.pointer P, .pointer Q], .int .i64 a] w fun e w' => e = .returned (.tuple #[.int .i64 (p).1.words, .bool (p).1.is, .int .i64 (p).2]) ∧ Keeps w w' := by
  have HAt := Lib.hid hat
  have HI := Lib.hid (fun t w => is_any t w)
  clear hat
  obtain ⟨t, x⟩ := p
  have HI0 := Lib.hid (fun w => HI.out t w)
  clear HI
  generalize t.is = B at *
  obtain ⟨⟨c, ag, fw, mk, fi, dn⟩, r, d, k⟩ := t
  unfold thV at *
  dsimp only at *
  go_enter Try.func58, Try.ntmps58
  go_wp2_with fail
  refine named (fun W1 hW1 => ?_)
  have KW1 : Keeps w W1 := by rw [hW1]; exact ((Touch.refl _ w).alloc _)
  have BW1_S : BL W1 (w.heap.size) 34 [.pointer P, .pointer Q] := by rw [hW1]; exact (BL.new1 _ _ _ [.pointer P, .pointer Q] _ (by simp) rfl)
  have zW1 : w.heap.size + 1 ≤ W1.heap.size := by rw [hW1]; simp
  clear hW1
  have l2 := BW1_S.lt
  refine Calls.mono (HAt.out _ KW1) ?_
  rintro e w3 ⟨rfl, kw3⟩
  have Kw3 := Keeps.trans KW1 kw3
  have Bw3_S := BL.keep BW1_S kw3
  have zw3 := kw3.size
  clear l2 BW1_S KW1 kw3
  have l4 := Bw3_S.lt
  go_wp2_with fail
  refine named_code (fun W5 hW5 => ?_)
  have KW5 : Keeps w W5 := by rw [hW5]; exact (Kw3.alloc _)
  have BW5_T : BL W5 (w3.heap.size) 101 [.int .i64 c, .int .i64 ag, .int .i64 fw, .bool mk, .bool fi, .bool dn, .int .i64 r, .int .i64 d, .int .i64 k] := by rw [hW5]; exact (BL.new1 _ _ _ [.int .i64 c, .int .i64 ag, .int .i64 fw, .bool mk, .bool fi, .bool dn, .int .i64 r, .int .i64 d, .int .i64 k] _ (by simp) rfl)
  have zW5 : w3.heap.size + 1 ≤ W5.heap.size := by rw [hW5]; simp
  clear l4 Bw3_S Kw3 hW5
  have l6 := BW5_T.lt
  refine wp_region_noPanic ?_
  refine wp_region_held_drew (S := (fun w' => BL w' (w3.heap.size) 101 [.int .i64 c, .int .i64 ag, .int .i64 fw, .bool mk, .bool fi, .bool dn, .int .i64 r, .int .i64 d, .int .i64 k] ∧ Keeps W5 w')) (by kernel_rfl) ⟨BW5_T.drew, (Touch.refl _ _).drew⟩ (fun hHeld => ?_)
  refine' wpAnyH_take (i := 0) ?hi0 ?hs0 ?hf0 ?hr0 ?hQ0 ?hy0 (by assumption) ?rest0
  case hi0 => simp only [List.getElem?_toArray, List.getElem?_cons_zero] <;> rfl
  case hs0 => kernel_rfl
  case hf0 => kernel_rfl
  case hr0 => kernel_rfl
  case hQ0 => exact fun _ _ _ h => h
  case hy0 => exact Or.inl ⟨by rfl, fun w hSw => by obtain ⟨hS1, hS2⟩ := hSw; have q0 := hS1.c 0 (.int .i64 c) rfl; have q1 := hS1.c 1 (.int .i64 ag) rfl; have q2 := hS1.c 2 (.int .i64 fw) rfl; have q3 := hS1.c 3 (.bool mk) rfl; have q4 := hS1.c 4 (.bool fi) rfl; have q5 := hS1.c 5 (.bool dn) rfl; have q6 := hS1.c 6 (.int .i64 r) rfl; have q7 := hS1.c 7 (.int .i64 d) rfl; have q8 := hS1.c 8 (.int .i64 k) rfl; clear hS1; go_simp <;> (try with_reducible rfl)⟩
  simp only [Act.put, List.setIfInBounds_toArray, List.set_cons_zero, List.set_cons_succ]
  refine' wpAnyH_take (i := 1) ?hi1 ?hs1 ?hf1 ?hr1 ?hQ1 ?hy1 (by assumption) ?rest1
  case hi1 => simp only [List.getElem?_toArray, List.getElem?_cons_succ, List.getElem?_cons_zero] <;> rfl
  case hs1 => kernel_rfl
  case hf1 => kernel_rfl
  case hr1 => kernel_rfl
  case hQ1 => exact fun _ _ _ h => h
  case hy1 => exact Or.inl ⟨by rfl, fun w hSw => by obtain ⟨hS1, hS2⟩ := hSw; have q0 := hS1.c 0 (.int .i64 c) rfl; have q1 := hS1.c 1 (.int .i64 ag) rfl; have q2 := hS1.c 2 (.int .i64 fw) rfl; have q3 := hS1.c 3 (.bool mk) rfl; have q4 := hS1.c 4 (.bool fi) rfl; have q5 := hS1.c 5 (.bool dn) rfl; have q6 := hS1.c 6 (.int .i64 r) rfl; have q7 := hS1.c 7 (.int .i64 d) rfl; have q8 := hS1.c 8 (.int .i64 k) rfl; clear hS1; go_simp <;> (try with_reducible rfl)⟩
  simp only [Act.put, List.setIfInBounds_toArray, List.set_cons_zero, List.set_cons_succ]
  refine' wpAnyH_take (i := 2) ?hi2 ?hs2 ?hf2 ?hr2 ?hQ2 ?hy2 (by assumption) ?rest2
  case hi2 => simp only [List.getElem?_toArray, List.getElem?_cons_succ, List.getElem?_cons_zero] <;> rfl
  case hs2 => kernel_rfl
  case hf2 => kernel_rfl
  case hr2 => kernel_rfl
  case hQ2 => exact fun _ _ _ h => h
  case hy2 => exact Or.inl ⟨by rfl, fun w hSw => by obtain ⟨hS1, hS2⟩ := hSw; have q0 := hS1.c 0 (.int .i64 c) rfl; have q1 := hS1.c 1 (.int .i64 ag) rfl; have q2 := hS1.c 2 (.int .i64 fw) rfl; have q3 := hS1.c 3 (.bool mk) rfl; have q4 := hS1.c 4 (.bool fi) rfl; have q5 := hS1.c 5 (.bool dn) rfl; have q6 := hS1.c 6 (.int .i64 r) rfl; have q7 := hS1.c 7 (.int .i64 d) rfl; have q8 := hS1.c 8 (.int .i64 k) rfl; clear hS1; go_simp <;> (try with_reducible rfl)⟩
  simp only [Act.put, List.setIfInBounds_toArray, List.set_cons_zero, List.set_cons_succ]
  refine' wpAnyH_take (i := 4) ?hi4 ?hs4 ?hf4 ?hr4 ?hQ4 ?hy4 (by assumption) ?rest4
  case hi4 => simp only [List.getElem?_toArray, List.getElem?_cons_succ, List.getElem?_cons_zero] <;> rfl
  case hs4 => kernel_rfl
  case hf4 => kernel_rfl
  case hr4 => kernel_rfl
  case hQ4 => exact fun _ _ _ h => h
  case hy4 => exact Or.inl ⟨by rfl, fun w hSw => by obtain ⟨hS1, hS2⟩ := hSw; have q0 := hS1.c 0 (.int .i64 c) rfl; have q1 := hS1.c 1 (.int .i64 ag) rfl; have q2 := hS1.c 2 (.int .i64 fw) rfl; have q3 := hS1.c 3 (.bool mk) rfl; have q4 := hS1.c 4 (.bool fi) rfl; have q5 := hS1.c 5 (.bool dn) rfl; have q6 := hS1.c 6 (.int .i64 r) rfl; have q7 := hS1.c 7 (.int .i64 d) rfl; have q8 := hS1.c 8 (.int .i64 k) rfl; clear hS1; go_simp <;> (try with_reducible rfl)⟩
  simp only [Act.put, List.setIfInBounds_toArray, List.set_cons_zero, List.set_cons_succ]
  refine wpAnyH_ready (rs := [3]) (by kernel_rfl) (by simp) ?_
  refine AllReadyH.cons rfl (fun K hK => ?_) AllReadyH.nil
  go_simp
  (with_reducible refine (HI0.out _).mono ?_; rintro e w' ⟨rfl, kq⟩)
  go_wp2_with fail
  refine hK.out _ _ ⟨hHeld.1.keep kq, hHeld.2.trans kq⟩ (fun hHeld => ?_)
  clear hK K
  refine' wpAnyH_take (i := 5) ?hi5 ?hs5 ?hf5 ?hr5 ?hQ5 ?hy5 (by assumption) ?rest5
  case hi5 => simp only [List.getElem?_toArray, List.getElem?_cons_succ, List.getElem?_cons_zero] <;> rfl
  case hs5 => kernel_rfl
  case hf5 => kernel_rfl
  case hr5 => kernel_rfl
  case hQ5 => exact fun _ _ _ h => h
  case hy5 => exact Or.inl ⟨by rfl, fun w hSw => by go_simp <;> (try with_reducible rfl)⟩
  simp only [Act.put, List.setIfInBounds_toArray, List.set_cons_zero, List.set_cons_succ]
  refine' wpAnyH_take (i := 6) ?hi6 ?hs6 ?hf6 ?hr6 ?hQ6 ?hy6 (by assumption) ?rest6
  case hi6 => simp only [List.getElem?_toArray, List.getElem?_cons_succ, List.getElem?_cons_zero] <;> rfl
  case hs6 => kernel_rfl
  case hf6 => kernel_rfl
  case hr6 => kernel_rfl
  case hQ6 => exact fun _ _ _ h => h
  case hy6 => exact Or.inl ⟨by rfl, fun w hSw => by go_simp <;> (try with_reducible rfl)⟩
  simp only [Act.put, List.setIfInBounds_toArray, List.set_cons_zero, List.set_cons_succ]
  refine' wpAnyH_take (i := 7) ?hi7 ?hs7 ?hf7 ?hr7 ?hQ7 ?hy7 (by assumption) ?rest7
  case hi7 => simp only [List.getElem?_toArray, List.getElem?_cons_succ, List.getElem?_cons_zero] <;> rfl
  case hs7 => kernel_rfl
  case hf7 => kernel_rfl
  case hr7 => kernel_rfl
  case hQ7 => exact fun _ _ _ h => h
  case hy7 => exact Or.inl ⟨by rfl, fun w hSw => by go_simp <;> (try with_reducible rfl)⟩
  simp only [Act.put, List.setIfInBounds_toArray, List.set_cons_zero, List.set_cons_succ]
  refine wpAnyH_done (by kernel_rfl) ?_ _
  refine NoPanic.normal ?_
  go_wp2_with fail
  go_returns
  exact ⟨rfl, Keeps.trans KW5 hHeld.2⟩

set_option maxHeartbeats 1000000 in
theorem oshape_core (P Q : Option Addr) (a : Int) (w : World) (p : Th × Int) (hat : ∀ w', Keeps w w' → Calls Try.prog 44 #[.agg #[.pointer P, .pointer Q], .int .i64 a] w' fun e w2 => e = .returned (.tuple #[thV p.1, .int .i64 p.2]) ∧ Keeps w' w2) :
    Calls Try.prog 17 #[.agg #[.pointer P, .pointer Q], .int .i64 a] w fun e w' => e = .returned (.tuple #[.int .i64 (p).1.refs, .int .i64 (p).1.data, .int .i64 (p).2]) ∧ Keeps w w' := by
  have HAt := Lib.hid hat
  clear hat
  obtain ⟨⟨⟨c, ag, fw, mk, fi, dn⟩, r, d, k⟩, x⟩ := p
  unfold thV at *
  dsimp only at *
  go_enter Try.func17, Try.ntmps17
  go_wp2_with fail
  refine named (fun W1 hW1 => ?_)
  have KW1 : Keeps w W1 := by rw [hW1]; exact ((Touch.refl _ w).alloc _)
  have BW1_S : BL W1 (w.heap.size) 34 [.pointer P, .pointer Q] := by rw [hW1]; exact (BL.new1 _ _ _ [.pointer P, .pointer Q] _ (by simp) rfl)
  have zW1 : w.heap.size + 1 ≤ W1.heap.size := by rw [hW1]; simp
  clear hW1
  have l2 := BW1_S.lt
  refine Calls.mono (HAt.out _ KW1) ?_
  rintro e w3 ⟨rfl, kw3⟩
  have Kw3 := Keeps.trans KW1 kw3
  have Bw3_S := BL.keep BW1_S kw3
  have zw3 := kw3.size
  clear l2 BW1_S KW1 kw3
  have l4 := Bw3_S.lt
  go_wp2_with fail
  refine named_code (fun W5 hW5 => ?_)
  have KW5 : Keeps w W5 := by rw [hW5]; exact (Kw3.alloc _)
  have BW5_T : BL W5 (w3.heap.size) 101 [.int .i64 c, .int .i64 ag, .int .i64 fw, .bool mk, .bool fi, .bool dn, .int .i64 r, .int .i64 d, .int .i64 k] := by rw [hW5]; exact (BL.new1 _ _ _ [.int .i64 c, .int .i64 ag, .int .i64 fw, .bool mk, .bool fi, .bool dn, .int .i64 r, .int .i64 d, .int .i64 k] _ (by simp) rfl)
  have zW5 : w3.heap.size + 1 ≤ W5.heap.size := by rw [hW5]; simp
  clear l4 Bw3_S Kw3 hW5
  have l6 := BW5_T.lt
  have c7 : W5.cell? ⟨w3.heap.size, 6, none⟩ = some (.int .i64 r) := BW5_T.c 6 _ rfl
  have c8 : W5.cell? ⟨w3.heap.size, 7, none⟩ = some (.int .i64 d) := BW5_T.c 7 _ rfl
  go_quiet (fail)
  go_wp2_with fail
  go_returns
  exact ⟨rfl, Touch.drewN _ KW5⟩

set_option maxHeartbeats 1000000 in
theorem ohead_core (P Q : Option Addr) (a : Int) (w : World) (p : Th × Int) (hat : ∀ w', Keeps w w' → Calls Try.prog 44 #[.agg #[.pointer P, .pointer Q], .int .i64 a] w' fun e w2 => e = .returned (.tuple #[thV p.1, .int .i64 p.2]) ∧ Keeps w' w2) :
    Calls Try.prog 41 #[.agg #[.pointer P, .pointer Q], .int .i64 a] w fun e w' => e = .returned (.tuple #[hdV (p).1.hd, .int .i64 (p).2]) ∧ Keeps w w' := by
  have hz2 := zero_hd
  have HAt := Lib.hid hat
  clear hat
  obtain ⟨⟨⟨c, ag, fw, mk, fi, dn⟩, r, d, k⟩, x⟩ := p
  unfold thV hdV at *
  dsimp only at *
  go_enter Try.func41, Try.ntmps41
  go_wp2_with fail
  refine named (fun W1 hW1 => ?_)
  have KW1 : Keeps w W1 := by rw [hW1]; exact (((Touch.refl _ w).alloc _).alloc _)
  have BW1_S : BL W1 (w.heap.size) 34 [.pointer P, .pointer Q] := by rw [hW1]; exact (BL.alloc (BL.new1 _ _ _ [.pointer P, .pointer Q] _ (by simp) rfl) _)
  have BW1_R : BL W1 (w.heap.size + 1) 96 [.int .i64 0, .int .i64 0, .int .i64 0, .bool false, .bool false, .bool false] := by rw [hW1]; exact (BL.new1 _ _ _ [.int .i64 0, .int .i64 0, .int .i64 0, .bool false, .bool false, .bool false] _ (by simp) rfl)
  have zW1 : w.heap.size + 2 ≤ W1.heap.size := by rw [hW1]; simp
  clear hW1
  have l2 := BW1_S.lt
  have l3 := BW1_R.lt
  refine Calls.mono (HAt.out _ KW1) ?_
  rintro e w4 ⟨rfl, kw4⟩
  have Kw4 := Keeps.trans KW1 kw4
  have Bw4_S := BL.keep BW1_S kw4
  have Bw4_R := BL.keep BW1_R kw4
  have zw4 := kw4.size
  clear l2 l3 BW1_S BW1_R KW1 kw4
  have l5 := Bw4_S.lt
  have l6 := Bw4_R.lt
  go_wp2_with (first | (refine store_bl ?_ 96 (.tmp 4) (.tmp 15) ?_ (BL.alloc Bw4_R _) ?_ [.int .i64 c, .int .i64 ag, .int .i64 fw, .bool mk, .bool fi, .bool dn] ?_ sz_hd rfl rfl ?_; rfl; rfl; rfl; rfl; intro W7 BW7_R kW7; have KW7 := Keeps.new (Kw4.alloc _) kW7 (by show w.heap.size ≤ w.heap.size + 1; omega); have zW7 : w4.heap.size + 1 ≤ W7.heap.size := Nat.le_trans (by simp) kW7.size; clear l5 l6 Bw4_S Bw4_R Kw4 kW7; have l8 := BW7_R.lt))
  have HE := BW7_R
  have s0 := HE.c 0 (.int .i64 c) rfl
  have s1 := HE.c 1 (.int .i64 ag) rfl
  have s2 := HE.c 2 (.int .i64 fw) rfl
  have s3 := HE.c 3 (.bool mk) rfl
  have s4 := HE.c 4 (.bool fi) rfl
  have s5 := HE.c 5 (.bool dn) rfl
  refine bodyPost_ret (v := .tuple #[.agg #[.int .i64 c, .int .i64 ag, .int .i64 fw, .bool mk, .bool fi, .bool dn], .int .i64 x]) (by simp [results, Try.results41, go_sem, s0, s1, s2, s3, s4, s5]) rfl ⟨rfl, KW7⟩

theorem object_any (ba bw n : Nat) (f : Nat → Int) (bt : Nat) (A : Option Addr) (m cap : Nat) (C : Nat → Cl) (w : World) (h : St w ba bw n f bt A m cap C) (a : Int) :
    Calls Try.prog 44 #[stV ba bt, .int .i64 a] w fun e w' => e = .returned (.tuple #[thV (objP (atT n f m C a)).1, .int .i64 (objP (atT n f m C a)).2]) ∧ Keeps w w' :=
  object_core _ _ a w _ (fun w' k => at_any ba bw n f bt A m cap C w' (h.keep k) a)
theorem size_any (ba bw n : Nat) (f : Nat → Int) (bt : Nat) (A : Option Addr) (m cap : Nat) (C : Nat → Cl) (w : World) (h : St w ba bw n f bt A m cap C) (a : Int) :
    Calls Try.prog 58 #[stV ba bt, .int .i64 a] w fun e w' => e = .returned (.tuple #[.int .i64 (atT n f m C a).1.words, .bool (atT n f m C a).1.is, .int .i64 (atT n f m C a).2]) ∧ Keeps w w' :=
  size_core _ _ a w _ (fun w' k => at_any ba bw n f bt A m cap C w' (h.keep k) a)
theorem oshape_any (ba bw n : Nat) (f : Nat → Int) (bt : Nat) (A : Option Addr) (m cap : Nat) (C : Nat → Cl) (w : World) (h : St w ba bw n f bt A m cap C) (a : Int) :
    Calls Try.prog 17 #[stV ba bt, .int .i64 a] w fun e w' => e = .returned (.tuple #[.int .i64 (objP (atT n f m C a)).1.refs, .int .i64 (objP (atT n f m C a)).1.data, .int .i64 (objP (atT n f m C a)).2]) ∧ Keeps w w' :=
  oshape_core _ _ a w _ (fun w' k => object_any ba bw n f bt A m cap C w' (h.keep k) a)
theorem ohead_any (ba bw n : Nat) (f : Nat → Int) (bt : Nat) (A : Option Addr) (m cap : Nat) (C : Nat → Cl) (w : World) (h : St w ba bw n f bt A m cap C) (a : Int) :
    Calls Try.prog 41 #[stV ba bt, .int .i64 a] w fun e w' => e = .returned (.tuple #[hdV (objP (atT n f m C a)).1.hd, .int .i64 (objP (atT n f m C a)).2]) ∧ Keeps w w' :=
  ohead_core _ _ a w _ (fun w' k => object_any ba bw n f bt A m cap C w' (h.keep k) a)
end Go.Proofs.Ytabfbgkablbeeaa
