/- The document's answer for classes, by contracts. -/
import Derived.Test.YtkjgfblkbjlohaaGreatG12
import Derived.Test.YtkjgfblkbjlohaaGreatG19
import Derived.Test.YtkjgfblkbjlohaaGreatG16
import Derived.Test.YtkjgfblkbjlohaaGreatG03
set_option linter.all false

namespace Go.Proofs.YtkjgfblkbjlohaaGreat
open Go.RowKit

theorem raw_bd {W : Int} (h : (rawH W).ok) : 0 ≤ W ∧ W < 33554432 := by
  have h3 := h.2.2.1
  have h1 : 0 ≤ W / 8192 := h3.1
  have h2 : W / 8192 < 4096 := h3.2
  omega
theorem rhright_ok (c ag fw : Int) (mk fi dn : Bool) (w : World) (h : (Hd.mk c ag fw mk fi dn).ok) :
    Calls Tryz.prog 94 #[.agg #[.int .i64 c, .int .i64 ag, .int .i64 fw, .bool mk, .bool fi, .bool dn]] w fun r w' => r = .returned (.bool true) ∧ Keeps w w' := by
  obtain ⟨⟨h1, h2⟩, ⟨h3, h4⟩, ⟨h5, h6⟩, h7⟩ := h
  dsimp only at h1 h2 h3 h4 h5 h6 h7
  have g2 : c ≤ 63 := by omega
  have g4 : ag ≤ 7 := by omega
  have g6 : fw ≤ 4095 := by omega
  go_enter Tryz.func94, Tryz.ntmps94
  cases fi with
  | false =>
    go_wp2_with fail
    go_ret
    exact ⟨rfl, (Touch.refl _ w).alloc _⟩
  | true =>
    cases dn with
    | true => exact absurd ⟨rfl, rfl⟩ h7
    | false =>
      go_wp2_with fail
      go_ret
      exact ⟨rfl, (Touch.refl _ w).alloc _⟩
theorem sz_rhd : (Tryz.prog.info? 103).map (·.size) = some 6 := by kernel_rfl
theorem rof_ok (W : Int) (w : World) (h : (rawH W).ok) :
    Calls Tryz.prog 77 #[.int .i64 W] w fun r w' => r = .returned (.tuple #[hdV (rawH W), .int .i64 0]) ∧ Keeps w w' := by
  obtain ⟨b1, b2⟩ := raw_bd h
  have hm := raw_mod W b1 (by omega)
  rw [hm] at h ⊢
  have HR := Lib.hid (fun w' => rhright_ok _ _ _ _ _ _ w' h)
  clear h hm
  have n1 : ¬ W < 0 := by omega
  have n2 : ¬ 33554432 ≤ W := by omega
  unfold hdV
  dsimp only
  go_enter Tryz.func77, Tryz.ntmps77
  go_wp2_with fail
  refine named (fun W1 hW1 => ?_)
  have KW1 : Keeps w W1 := by rw [hW1]; exact (((Touch.refl _ w).alloc _).alloc _)
  have BW1_R : BL W1 (w.heap.size) 103 [.int .i64 0, .int .i64 0, .int .i64 0, .bool false, .bool false, .bool false] := by rw [hW1]; exact (BL.alloc (BL.new1 _ _ _ [.int .i64 0, .int .i64 0, .int .i64 0, .bool false, .bool false, .bool false] _ (by simp) rfl) _)
  have BW1_H : BL W1 (w.heap.size + 1) 103 [.int .i64 (W % 64), .int .i64 (W / 64 % 16), .int .i64 (W / 8192), .bool (W / 1024 % 2 == 1), .bool (W / 2048 % 2 == 1), .bool (W / 4096 % 2 == 1)] := by rw [hW1]; exact (BL.new1 _ _ _ [.int .i64 (W % 64), .int .i64 (W / 64 % 16), .int .i64 (W / 8192), .bool (W / 1024 % 2 == 1), .bool (W / 2048 % 2 == 1), .bool (W / 4096 % 2 == 1)] _ (by simp) rfl)
  have zW1 : w.heap.size + 2 ≤ W1.heap.size := by rw [hW1]; simp
  clear hW1
  have l2 := BW1_R.lt
  have l3 := BW1_H.lt
  refine Calls.mono (HR.out _) ?_
  rintro e w4 ⟨rfl, kw4⟩
  have Kw4 := Keeps.trans KW1 kw4
  have Bw4_R := BL.keep BW1_R kw4
  have Bw4_H := BL.keep BW1_H kw4
  have zw4 := kw4.size
  clear l2 l3 BW1_R BW1_H KW1 kw4
  have l5 := Bw4_R.lt
  have l6 := Bw4_H.lt
  have c7 : w4.cell? ⟨w.heap.size, 0, none⟩ = some (.int .i64 0) := Bw4_R.c 0 _ rfl
  have c8 : w4.cell? ⟨w.heap.size, 1, none⟩ = some (.int .i64 0) := Bw4_R.c 1 _ rfl
  have c9 : w4.cell? ⟨w.heap.size, 2, none⟩ = some (.int .i64 0) := Bw4_R.c 2 _ rfl
  have c10 : w4.cell? ⟨w.heap.size, 3, none⟩ = some (.bool false) := Bw4_R.c 3 _ rfl
  have c11 : w4.cell? ⟨w.heap.size, 4, none⟩ = some (.bool false) := Bw4_R.c 4 _ rfl
  have c12 : w4.cell? ⟨w.heap.size, 5, none⟩ = some (.bool false) := Bw4_R.c 5 _ rfl
  have f13 := Bw4_R.fz 0
  have f14 := Bw4_R.fz 1
  have f15 := Bw4_R.fz 2
  have f16 := Bw4_R.fz 3
  have f17 := Bw4_R.fz 4
  have f18 := Bw4_R.fz 5
  have c19 : w4.cell? ⟨w.heap.size + 1, 0, none⟩ = some (.int .i64 (W % 64)) := Bw4_H.c 0 _ rfl
  have c20 : w4.cell? ⟨w.heap.size + 1, 1, none⟩ = some (.int .i64 (W / 64 % 16)) := Bw4_H.c 1 _ rfl
  have c21 : w4.cell? ⟨w.heap.size + 1, 2, none⟩ = some (.int .i64 (W / 8192)) := Bw4_H.c 2 _ rfl
  have c22 : w4.cell? ⟨w.heap.size + 1, 3, none⟩ = some (.bool (W / 1024 % 2 == 1)) := Bw4_H.c 3 _ rfl
  have c23 : w4.cell? ⟨w.heap.size + 1, 4, none⟩ = some (.bool (W / 2048 % 2 == 1)) := Bw4_H.c 4 _ rfl
  have c24 : w4.cell? ⟨w.heap.size + 1, 5, none⟩ = some (.bool (W / 4096 % 2 == 1)) := Bw4_H.c 5 _ rfl
  go_wp2_with (first | (refine store_bl ?_ 103 (.tmp 2) (.tmp 39) ?_ Bw4_R ?_ [.int .i64 (W % 64), .int .i64 (W / 64 % 16), .int .i64 (W / 8192), .bool (W / 1024 % 2 == 1), .bool (W / 2048 % 2 == 1), .bool (W / 4096 % 2 == 1)] ?_ sz_rhd rfl rfl ?_; rfl; rfl; rfl; rfl; intro W25 BW25_R kW25; have KW25 := Keeps.new Kw4 kW25 (by show w.heap.size ≤ w.heap.size; omega); have zW25 : w4.heap.size + 0 ≤ W25.heap.size := Nat.le_trans (by simp) kW25.size; clear l5 l6 c7 c8 c9 c10 c11 c12 f13 f14 f15 f16 f17 f18 c19 c20 c21 c22 c23 c24 Bw4_R Bw4_H Kw4 kW25; have l26 := BW25_R.lt; have c27 : W25.cell? ⟨w.heap.size, 0, none⟩ = some (.int .i64 (W % 64)) := BW25_R.c 0 _ rfl; have c28 : W25.cell? ⟨w.heap.size, 1, none⟩ = some (.int .i64 (W / 64 % 16)) := BW25_R.c 1 _ rfl; have c29 : W25.cell? ⟨w.heap.size, 2, none⟩ = some (.int .i64 (W / 8192)) := BW25_R.c 2 _ rfl; have c30 : W25.cell? ⟨w.heap.size, 3, none⟩ = some (.bool (W / 1024 % 2 == 1)) := BW25_R.c 3 _ rfl; have c31 : W25.cell? ⟨w.heap.size, 4, none⟩ = some (.bool (W / 2048 % 2 == 1)) := BW25_R.c 4 _ rfl; have c32 : W25.cell? ⟨w.heap.size, 5, none⟩ = some (.bool (W / 4096 % 2 == 1)) := BW25_R.c 5 _ rfl))
  have HE := BW25_R
  have s0 := HE.c 0 (.int .i64 (W % 64)) rfl
  have s1 := HE.c 1 (.int .i64 (W / 64 % 16)) rfl
  have s2 := HE.c 2 (.int .i64 (W / 8192)) rfl
  have s3 := HE.c 3 (.bool (W / 1024 % 2 == 1)) rfl
  have s4 := HE.c 4 (.bool (W / 2048 % 2 == 1)) rfl
  have s5 := HE.c 5 (.bool (W / 4096 % 2 == 1)) rfl
  refine bodyPost_ret (v := .tuple #[.agg #[.int .i64 (W % 64), .int .i64 (W / 64 % 16), .int .i64 (W / 8192), .bool (W / 1024 % 2 == 1), .bool (W / 2048 % 2 == 1), .bool (W / 4096 % 2 == 1)], .int .i64 0]) (by simp [results, Tryz.results77, go_sem, s0, s1, s2, s3, s4, s5]) rfl ⟨rfl, KW25⟩

end Go.Proofs.YtkjgfblkbjlohaaGreat

namespace Go.Proofs.YtkjgfblkbjlohaaGreat
open Go.RowKit

theorem smB_sum {c : Cl} (h0 : 0 ≤ c.refs) (h1 : 0 ≤ c.data) : smB c = decide (2 + c.refs + c.data ≤ 32) := by
  unfold smB
  rw [Bool.eq_iff_iff]
  simp
  omega
theorem rgB_bad {c : Cl} (h : c.refs < 0 ∨ c.data < 0 ∨ 32 < c.refs ∨ 32 < c.data) : rgB c = false := by
  cases hb : rgB c with
  | false => rfl
  | true =>
    obtain ⟨h1, h2, h3, h4, h5⟩ := rgB_ok hb
    omega

set_option maxHeartbeats 2000000 in
theorem rright_cls (ck cr cd : Int) (cf : Bool) (w : World) :
    Calls Tryz.prog 49 #[.agg #[.int .i64 ck, .int .i64 cr, .int .i64 cd, .bool cf]] w fun e w' => e = .returned (.bool (rgB ⟨ck, cr, cd, cf⟩)) ∧ Keeps w w' := by
  by_cases h0 : cr < 0
  ·
    have HB := Lib.hid (show rgB ⟨ck, cr, cd, cf⟩ = false from rgB_bad (by dsimp only; omega))
    rw [HB.out]
    go_enter Tryz.func49, Tryz.ntmps49
    go_wp2_with fail
    go_ret
    exact ⟨rfl, (Touch.refl _ w).alloc _⟩
  ·
    have p0 : 0 ≤ cr := by omega
    clear h0
    by_cases h1 : cd < 0
    ·
      have HB := Lib.hid (show rgB ⟨ck, cr, cd, cf⟩ = false from rgB_bad (by dsimp only; omega))
      rw [HB.out]
      go_enter Tryz.func49, Tryz.ntmps49
      go_wp2_with fail
      go_ret
      exact ⟨rfl, (Touch.refl _ w).alloc _⟩
    ·
      have p1 : 0 ≤ cd := by omega
      clear h1
      by_cases h2 : 32 < cr
      ·
        have HB := Lib.hid (show rgB ⟨ck, cr, cd, cf⟩ = false from rgB_bad (by dsimp only; omega))
        rw [HB.out]
        go_enter Tryz.func49, Tryz.ntmps49
        go_wp2_with fail
        go_ret
        exact ⟨rfl, (Touch.refl _ w).alloc _⟩
      ·
        have p2 : cr ≤ 32 := by omega
        clear h2
        by_cases h3 : 32 < cd
        ·
          have HB := Lib.hid (show rgB ⟨ck, cr, cd, cf⟩ = false from rgB_bad (by dsimp only; omega))
          rw [HB.out]
          go_enter Tryz.func49, Tryz.ntmps49
          go_wp2_with fail
          go_ret
          exact ⟨rfl, (Touch.refl _ w).alloc _⟩
        ·
          have p3 : cd ≤ 32 := by omega
          clear h3
          have g1 : IntKind.i64.wrap (2 + cr) = 2 + cr := IntWalk.i64_in _ ⟨by omega, by omega⟩
          have g2 : IntKind.i64.wrap (2 + cr + cd) = 2 + cr + cd := IntWalk.i64_in _ ⟨by omega, by omega⟩
          by_cases k1 : ck = 1
          ·
            subst k1
            have HB := Lib.hid (show rgB ⟨1, cr, cd, cf⟩ = decide (2 + cr + cd ≤ 32) by rw [show rgB ⟨1, cr, cd, cf⟩ = smB ⟨1, cr, cd, cf⟩ from rfl]; exact smB_sum p0 p1)
            rw [HB.out]
            go_enter Tryz.func49, Tryz.ntmps49
            go_wp2_with fail
            go_ret
            exact ⟨rfl, (Touch.refl _ w).alloc _⟩
          ·
            by_cases k2 : ck = 2
            ·
              subst k2
              clear k1
              have HB := Lib.hid (show rgB ⟨2, cr, cd, cf⟩ = (cr == 0 && cd == 0) from rfl)
              rw [HB.out]
              cases h1 : (cr == 0) with
              | false =>
                go_enter Tryz.func49, Tryz.ntmps49
                go_wp2_with fail
                go_ret
                exact ⟨rfl, (Touch.refl _ w).alloc _⟩
              | true =>
                go_enter Tryz.func49, Tryz.ntmps49
                go_wp2_with fail
                go_ret
                exact ⟨by simp, (Touch.refl _ w).alloc _⟩
            ·
              by_cases k3 : ck = 3
              ·
                subst k3
                clear k1
                clear k2
                have HB := Lib.hid (show rgB ⟨3, cr, cd, cf⟩ = (decide (2 + cr + cd ≤ 32) && (decide (1 ≤ cr) && (decide (2 ≤ cd) && !cf))) by rw [← smB_sum (c := ⟨3, cr, cd, cf⟩) p0 p1]; rfl)
                rw [HB.out]
                by_cases h0 : 2 + cr + cd ≤ 32
                ·
                  rw [decide_eq_true h0]
                  by_cases h1 : 1 ≤ cr
                  ·
                    rw [decide_eq_true h1]
                    by_cases h2 : 2 ≤ cd
                    ·
                      rw [decide_eq_true h2]
                      go_enter Tryz.func49, Tryz.ntmps49
                      go_wp2_with fail
                      go_ret
                      exact ⟨by first | rfl | simp, (Touch.refl _ w).alloc _⟩
                    ·
                      rw [decide_eq_false h2]
                      have h2' : cd < 2 := by omega
                      go_enter Tryz.func49, Tryz.ntmps49
                      go_wp2_with fail
                      go_ret
                      exact ⟨by first | rfl | simp, (Touch.refl _ w).alloc _⟩
                  ·
                    rw [decide_eq_false h1]
                    have h1' : cr < 1 := by omega
                    go_enter Tryz.func49, Tryz.ntmps49
                    go_wp2_with fail
                    go_ret
                    exact ⟨by first | rfl | simp, (Touch.refl _ w).alloc _⟩
                ·
                  rw [decide_eq_false h0]
                  have h0' : 32 < 2 + cr + cd := by omega
                  go_enter Tryz.func49, Tryz.ntmps49
                  go_wp2_with fail
                  go_ret
                  exact ⟨by first | rfl | simp, (Touch.refl _ w).alloc _⟩
              ·
                by_cases k4 : ck = 4
                ·
                  subst k4
                  clear k1
                  clear k2
                  clear k3
                  have HB := Lib.hid (show rgB ⟨4, cr, cd, cf⟩ = (decide (2 + cr + cd ≤ 32) && (decide (1 ≤ cr) && (decide (2 ≤ cd) && !cf))) by rw [← smB_sum (c := ⟨4, cr, cd, cf⟩) p0 p1]; rfl)
                  rw [HB.out]
                  by_cases h0 : 2 + cr + cd ≤ 32
                  ·
                    rw [decide_eq_true h0]
                    by_cases h1 : 1 ≤ cr
                    ·
                      rw [decide_eq_true h1]
                      by_cases h2 : 2 ≤ cd
                      ·
                        rw [decide_eq_true h2]
                        go_enter Tryz.func49, Tryz.ntmps49
                        go_wp2_with fail
                        go_ret
                        exact ⟨by first | rfl | simp, (Touch.refl _ w).alloc _⟩
                      ·
                        rw [decide_eq_false h2]
                        have h2' : cd < 2 := by omega
                        go_enter Tryz.func49, Tryz.ntmps49
                        go_wp2_with fail
                        go_ret
                        exact ⟨by first | rfl | simp, (Touch.refl _ w).alloc _⟩
                    ·
                      rw [decide_eq_false h1]
                      have h1' : cr < 1 := by omega
                      go_enter Tryz.func49, Tryz.ntmps49
                      go_wp2_with fail
                      go_ret
                      exact ⟨by first | rfl | simp, (Touch.refl _ w).alloc _⟩
                  ·
                    rw [decide_eq_false h0]
                    have h0' : 32 < 2 + cr + cd := by omega
                    go_enter Tryz.func49, Tryz.ntmps49
                    go_wp2_with fail
                    go_ret
                    exact ⟨by first | rfl | simp, (Touch.refl _ w).alloc _⟩
                ·
                  by_cases k5 : ck = 5
                  ·
                    subst k5
                    clear k1
                    clear k2
                    clear k3
                    clear k4
                    have HB := Lib.hid (show rgB ⟨5, cr, cd, cf⟩ = (decide (2 + cr + cd ≤ 32) && (decide (1 ≤ cr) && (decide (2 ≤ cd) && !cf))) by rw [← smB_sum (c := ⟨5, cr, cd, cf⟩) p0 p1]; rfl)
                    rw [HB.out]
                    by_cases h0 : 2 + cr + cd ≤ 32
                    ·
                      rw [decide_eq_true h0]
                      by_cases h1 : 1 ≤ cr
                      ·
                        rw [decide_eq_true h1]
                        by_cases h2 : 2 ≤ cd
                        ·
                          rw [decide_eq_true h2]
                          go_enter Tryz.func49, Tryz.ntmps49
                          go_wp2_with fail
                          go_ret
                          exact ⟨by first | rfl | simp, (Touch.refl _ w).alloc _⟩
                        ·
                          rw [decide_eq_false h2]
                          have h2' : cd < 2 := by omega
                          go_enter Tryz.func49, Tryz.ntmps49
                          go_wp2_with fail
                          go_ret
                          exact ⟨by first | rfl | simp, (Touch.refl _ w).alloc _⟩
                      ·
                        rw [decide_eq_false h1]
                        have h1' : cr < 1 := by omega
                        go_enter Tryz.func49, Tryz.ntmps49
                        go_wp2_with fail
                        go_ret
                        exact ⟨by first | rfl | simp, (Touch.refl _ w).alloc _⟩
                    ·
                      rw [decide_eq_false h0]
                      have h0' : 32 < 2 + cr + cd := by omega
                      go_enter Tryz.func49, Tryz.ntmps49
                      go_wp2_with fail
                      go_ret
                      exact ⟨by first | rfl | simp, (Touch.refl _ w).alloc _⟩
                  ·
                    have HB := Lib.hid (show rgB ⟨ck, cr, cd, cf⟩ = false by simp [rgB, k1, k2, k3, k4, k5])
                    rw [HB.out]
                    have n1 : (ck == 1) = false := by simpa using k1
                    have n2 : (ck == 2) = false := by simpa using k2
                    have n3 : (ck == 3) = false := by simpa using k3
                    have n4 : (ck == 4) = false := by simpa using k4
                    have n5 : (ck == 5) = false := by simpa using k5
                    clear k1 k2 k3 k4 k5
                    go_enter Tryz.func49, Tryz.ntmps49
                    go_wp2_with fail
                    go_ret
                    exact ⟨rfl, (Touch.refl _ w).alloc _⟩

/-- The error of a list of classes. -/
def newE (C : Nat → Cl) (n : Nat) : Int := if ∀ j, j < n → rgB (C j) = true then (if 64 ≤ n then 3 else 0) else 1
theorem newE_zero {C : Nat → Cl} {n : Nat} : newE C n = 0 ↔ (∀ j, j < n → rgB (C j) = true) ∧ n < 64 := by
  unfold newE
  by_cases h : ∀ j, j < n → rgB (C j) = true
  · rw [if_pos h]
    by_cases h2 : 64 ≤ n
    · rw [if_pos h2]; exact ⟨fun e => (by cases e), fun e => (by omega)⟩
    · rw [if_neg h2]; exact ⟨fun _ => ⟨h, by omega⟩, fun _ => rfl⟩
  · rw [if_neg h]; exact ⟨fun e => (by cases e), fun e => absurd e.1 h⟩
set_option maxHeartbeats 1000000 in
theorem rnew_cls (A : Option Addr) (n cap : Nat) (C : Nat → Cl) (w : World) (hr : Rd w A (n * 4) (clF C)) (hn : n ≤ 9223372036854775807) :
    Calls Tryz.prog 14 #[.slice A n cap] w fun e w' => e = .returned (.int .i64 (newE C n)) ∧ Keeps w w' := by
  go_enter Tryz.func14, Tryz.ntmps14
  go_wp2_with fail
  go_loopw [6] (fun i wr => ∃ k : Nat, k ≤ n ∧ i = .int .i64 k ∧ (∀ j, j < k → rgB (C j) = true) ∧ Keeps w wr) (fun i _ => n - (intOf i).toNat)
  case atStart => exact ⟨0, Nat.zero_le _, rfl, fun j h => by omega, Touch.refl _ _⟩
  case round =>
    obtain ⟨k, hk, rfl, hall, K⟩ := hrel
    have HA := Lib.hid hall
    clear hall
    by_cases hlt : k < n
    · obtain ⟨b, off, rfl, c0, c1, c2, c3⟩ := cl_cells (hr.keep K) hlt
      have HR := Lib.hid (rright_cls (C k).kind (C k).refs (C k).data (C k).fin wr)
      generalize hx : C k = x at *
      have HX := Lib.hid hx
      clear hx
      obtain ⟨xk, xr, xd, xf⟩ := x
      dsimp only at *
      generalize hB : rgB ⟨xk, xr, xd, xf⟩ = B at *
      have HB := Lib.hid hB
      clear hB
      go_wp2_with fail
      refine (HR.out).mono ?_
      rintro e w1 ⟨rfl, k1⟩
      cases B with
      | false =>
        go_wp2_with fail
        go_ret
        exact ⟨by
          have : newE C n = 1 := by
            unfold newE
            rw [if_neg]
            intro h
            have := h k hlt
            rw [HX.out, HB.out] at this
            cases this
          rw [this]; rfl, K.trans k1⟩
      | true =>
        go_wp2_with fail
        go_roundw
        case rel => exact ⟨k + 1, by omega, by go_num, fun j h => by
          rcases (by omega : j < k ∨ j = k) with h' | rfl
          · exact HA.out j h'
          · rw [HX.out]; exact HB.out, K.trans k1⟩
        case measure => simp [intOf]; omega
    · have HE : k = n := by omega
      by_cases h64 : 64 ≤ n
      · have HV := Lib.hid (show newE C n = 3 by unfold newE; rw [if_pos (by rw [← HE]; exact HA.out), if_pos h64])
        have h64' : (64 : Int) ≤ (n : Int) := by omega
        subst HE
        go_wp2_with fail
        go_ret
        exact ⟨by rw [HV.out]; rfl, K⟩
      · have HV := Lib.hid (show newE C n = 0 by unfold newE; rw [if_pos (by rw [← HE]; exact HA.out), if_neg h64])
        have h64' : (n : Int) < 64 := by omega
        subst HE
        go_wp2_with fail
        go_ret
        exact ⟨by rw [HV.out]; rfl, K⟩

theorem zero_cl5 (w : World) : (zeroValue 111).run Tryz.prog w = .ok (.agg #[.int .i64 0, .int .i64 0, .int .i64 0, .bool false]) w := by kernel_rfl
set_option maxHeartbeats 1000000 in
theorem rshape_any (A : Option Addr) (m cap : Nat) (C : Nat → Cl) (w : World) (hr : Rd w A (m * 4) (clF C)) (hC : ∀ j, j < m → (C j).ok) (hm : m ≤ 1000000) (a len : Int) :
    Calls Tryz.prog 56 #[.slice A m cap, .int .i64 a, .int .i64 len] w fun e w' => e = .returned (.tuple #[.int .i64 (shR C m a len), .int .i64 (shD C m a len), .int .i64 (shE C m a len)]) ∧ Keeps w w' := by
  have hz := zero_cl5
  by_cases ha : 1 ≤ a ∧ a ≤ m
  · obtain ⟨k, hk, rfl⟩ : ∃ k : Nat, k < m ∧ a = (k : Int) + 1 := ⟨(a - 1).toNat, by omega, by omega⟩
    have hkk : ((k : Int) + 1 - 1).toNat = k := by omega
    obtain ⟨b, off, rfl, c0, c1, c2, c3⟩ := cl_cells hr hk
    obtain ⟨o1, o2, o3, o4, o5⟩ := hC k hk
    unfold shR shD
    have hE : shE C m ((k : Int) + 1) len = if len < 0 ∨ (0 < len ∧ (C k).kind ≠ 2) then 1 else if 30 < len then 8 else 0 := by
      unfold shE
      rw [if_neg (by simpa using ha), hkk]
    rw [hkk, hE]
    clear hE hkk ha hr hC
    generalize C k = c at *
    obtain ⟨ck, cr, cd, cf⟩ := c
    dsimp only at *
    have i1 : ¬ ((k : Int) + 1 < 1) := by omega
    have i2 : ¬ ((m : Int) < (k : Int) + 1) := by omega
    have i3 : (0 : Int) ≤ (k : Int) := by omega
    have i4 : (k : Int) < (m : Int) := by omega
    have i5 : IntKind.i64.wrap ((k : Int) + 1 - 1) = (k : Int) := by rw [Int.add_sub_cancel]; exact IntWalk.i64_in _ ⟨by omega, by omega⟩
    by_cases h1 : len < 0
    · have hEv : (if len < 0 ∨ (0 < len ∧ ck ≠ 2) then (1 : Int) else if 30 < len then 8 else 0) = 1 := if_pos (.inl h1)
      rw [hEv, if_neg (by decide), if_neg (by decide)]
      clear hEv
      go_enter Tryz.func56, Tryz.ntmps56
      go_wp2_with fail
      go_returns
      exact ⟨rfl, (Touch.refl _ w).alloc _⟩
    · have p1 : 0 ≤ len := by omega
      by_cases h0 : len = 0
      · subst h0
        have w1 : IntKind.i64.wrap cr = cr := IntWalk.i64_in _ ⟨by omega, by omega⟩
        have w2 : IntKind.i64.wrap (cr + 0) = cr + 0 := IntWalk.i64_in _ ⟨by omega, by omega⟩
        have hEv : (if (0 : Int) < 0 ∨ ((0 : Int) < 0 ∧ ck ≠ 2) then (1 : Int) else if (30 : Int) < 0 then 8 else 0) = 0 := by simp
        rw [hEv, if_pos rfl, if_pos rfl]
        clear hEv
        go_enter Tryz.func56, Tryz.ntmps56
        go_wp2_with fail
        go_quiet (fail)
        go_wp2_with fail
        go_returns
        exact ⟨by rw [Int.add_zero]; rfl, ((Touch.refl _ w).alloc _).drewN _⟩
      · have p2 : 0 < len := by omega
        have p3 : (len != 0) = true := by simpa using h0
        by_cases h2 : ck = 2
        · subst h2
          by_cases h3 : 30 < len
          · have hEv : (if len < 0 ∨ (0 < len ∧ (2 : Int) ≠ 2) then (1 : Int) else if 30 < len then 8 else 0) = 8 := by rw [if_neg (by simp; omega), if_pos h3]
            rw [hEv, if_neg (by decide), if_neg (by decide)]
            clear hEv
            go_enter Tryz.func56, Tryz.ntmps56
            go_wp2_with fail
            go_returns
            exact ⟨rfl, (Touch.refl _ w).alloc _⟩
          · have hEv : (if len < 0 ∨ (0 < len ∧ (2 : Int) ≠ 2) then (1 : Int) else if 30 < len then 8 else 0) = 0 := by rw [if_neg (by simp; omega), if_neg h3]
            rw [hEv, if_pos rfl, if_pos rfl]
            clear hEv
            have w2 : IntKind.i64.wrap (cr + len) = cr + len := IntWalk.i64_in _ ⟨by omega, by omega⟩
            go_enter Tryz.func56, Tryz.ntmps56
            go_wp2_with fail
            go_quiet (fail)
            go_wp2_with fail
            go_returns
            exact ⟨rfl, ((Touch.refl _ w).alloc _).drewN _⟩
        · have hEv : (if len < 0 ∨ (0 < len ∧ ck ≠ 2) then (1 : Int) else if 30 < len then 8 else 0) = 1 := if_pos (.inr ⟨p2, h2⟩)
          rw [hEv, if_neg (by decide), if_neg (by decide)]
          have p4 : (ck != 2) = true := by simpa using h2
          clear hEv h2
          go_enter Tryz.func56, Tryz.ntmps56
          go_wp2_with fail
          go_returns
          exact ⟨rfl, (Touch.refl _ w).alloc _⟩
  · have hE : shE C m a len = 4 := if_pos ha
    unfold shR shD
    rw [hE, if_neg (by decide), if_neg (by decide)]
    clear hE hr hC
    by_cases h1 : a < 1
    · go_enter Tryz.func56, Tryz.ntmps56
      go_wp2_with fail
      go_returns
      exact ⟨rfl, Touch.refl _ w⟩
    · have h2 : (m : Int) < a := by omega
      clear ha
      go_enter Tryz.func56, Tryz.ntmps56
      go_wp2_with fail
      go_returns
      exact ⟨rfl, Touch.refl _ w⟩

end Go.Proofs.YtkjgfblkbjlohaaGreat
