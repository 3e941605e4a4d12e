/- The document's answer for classes, by contracts. -/
import Derived.Test.YtabfbgkablbeeaaG13
import Derived.Test.YtabfbgkablbeeaaG03
set_option linter.all false

namespace Go.Proofs.Ytabfbgkablbeeaa
open Go.RowKit

theorem smB_sum {c : Cl} (h0 : 0 ≤ c.refs) (h1 : 0 ≤ c.data) : smB c = decide (2 + c.refs + c.data ≤ 32) := by
  unfold smB
  rw [Bool.eq_iff_iff]
  simp
  omega
theorem rgB_bad {c : Cl} (h : c.refs < 0 ∨ c.data < 0 ∨ 32 < c.refs ∨ 32 < c.data) : rgB c = false := by
  cases hb : rgB c with
  | false => rfl
  | true =>
    obtain ⟨h1, h2, h3, h4, h5⟩ := rgB_ok hb
    omega

set_option maxHeartbeats 2000000 in
theorem rright_cls (ck cr cd : Int) (cf : Bool) (w : World) :
    Calls Try.prog 32 #[.agg #[.int .i64 ck, .int .i64 cr, .int .i64 cd, .bool cf]] w fun e w' => e = .returned (.bool (rgB ⟨ck, cr, cd, cf⟩)) ∧ Keeps w w' := by
  by_cases h0 : cr < 0
  ·
    have HB := Lib.hid (show rgB ⟨ck, cr, cd, cf⟩ = false from rgB_bad (by dsimp only; omega))
    rw [HB.out]
    go_enter Try.func32, Try.ntmps32
    go_wp2_with fail
    go_ret
    exact ⟨rfl, (Touch.refl _ w).alloc _⟩
  ·
    have p0 : 0 ≤ cr := by omega
    clear h0
    by_cases h1 : cd < 0
    ·
      have HB := Lib.hid (show rgB ⟨ck, cr, cd, cf⟩ = false from rgB_bad (by dsimp only; omega))
      rw [HB.out]
      go_enter Try.func32, Try.ntmps32
      go_wp2_with fail
      go_ret
      exact ⟨rfl, (Touch.refl _ w).alloc _⟩
    ·
      have p1 : 0 ≤ cd := by omega
      clear h1
      by_cases h2 : 32 < cr
      ·
        have HB := Lib.hid (show rgB ⟨ck, cr, cd, cf⟩ = false from rgB_bad (by dsimp only; omega))
        rw [HB.out]
        go_enter Try.func32, Try.ntmps32
        go_wp2_with fail
        go_ret
        exact ⟨rfl, (Touch.refl _ w).alloc _⟩
      ·
        have p2 : cr ≤ 32 := by omega
        clear h2
        by_cases h3 : 32 < cd
        ·
          have HB := Lib.hid (show rgB ⟨ck, cr, cd, cf⟩ = false from rgB_bad (by dsimp only; omega))
          rw [HB.out]
          go_enter Try.func32, Try.ntmps32
          go_wp2_with fail
          go_ret
          exact ⟨rfl, (Touch.refl _ w).alloc _⟩
        ·
          have p3 : cd ≤ 32 := by omega
          clear h3
          have g1 : IntKind.i64.wrap (2 + cr) = 2 + cr := IntWalk.i64_in _ ⟨by omega, by omega⟩
          have g2 : IntKind.i64.wrap (2 + cr + cd) = 2 + cr + cd := IntWalk.i64_in _ ⟨by omega, by omega⟩
          by_cases k1 : ck = 1
          ·
            subst k1
            have HB := Lib.hid (show rgB ⟨1, cr, cd, cf⟩ = decide (2 + cr + cd ≤ 32) by rw [show rgB ⟨1, cr, cd, cf⟩ = smB ⟨1, cr, cd, cf⟩ from rfl]; exact smB_sum p0 p1)
            rw [HB.out]
            go_enter Try.func32, Try.ntmps32
            go_wp2_with fail
            go_ret
            exact ⟨rfl, (Touch.refl _ w).alloc _⟩
          ·
            by_cases k2 : ck = 2
            ·
              subst k2
              clear k1
              have HB := Lib.hid (show rgB ⟨2, cr, cd, cf⟩ = (cr == 0 && cd == 0) from rfl)
              rw [HB.out]
              cases h1 : (cr == 0) with
              | false =>
                go_enter Try.func32, Try.ntmps32
                go_wp2_with fail
                go_ret
                exact ⟨rfl, (Touch.refl _ w).alloc _⟩
              | true =>
                go_enter Try.func32, Try.ntmps32
                go_wp2_with fail
                go_ret
                exact ⟨by simp, (Touch.refl _ w).alloc _⟩
            ·
              by_cases k3 : ck = 3
              ·
                subst k3
                clear k1
                clear k2
                have HB := Lib.hid (show rgB ⟨3, cr, cd, cf⟩ = (decide (2 + cr + cd ≤ 32) && (decide (1 ≤ cr) && (decide (2 ≤ cd) && !cf))) by rw [← smB_sum (c := ⟨3, cr, cd, cf⟩) p0 p1]; rfl)
                rw [HB.out]
                by_cases h0 : 2 + cr + cd ≤ 32
                ·
                  rw [decide_eq_true h0]
                  by_cases h1 : 1 ≤ cr
                  ·
                    rw [decide_eq_true h1]
                    by_cases h2 : 2 ≤ cd
                    ·
                      rw [decide_eq_true h2]
                      go_enter Try.func32, Try.ntmps32
                      go_wp2_with fail
                      go_ret
                      exact ⟨by first | rfl | simp, (Touch.refl _ w).alloc _⟩
                    ·
                      rw [decide_eq_false h2]
                      have h2' : cd < 2 := by omega
                      go_enter Try.func32, Try.ntmps32
                      go_wp2_with fail
                      go_ret
                      exact ⟨by first | rfl | simp, (Touch.refl _ w).alloc _⟩
                  ·
                    rw [decide_eq_false h1]
                    have h1' : cr < 1 := by omega
                    go_enter Try.func32, Try.ntmps32
                    go_wp2_with fail
                    go_ret
                    exact ⟨by first | rfl | simp, (Touch.refl _ w).alloc _⟩
                ·
                  rw [decide_eq_false h0]
                  have h0' : 32 < 2 + cr + cd := by omega
                  go_enter Try.func32, Try.ntmps32
                  go_wp2_with fail
                  go_ret
                  exact ⟨by first | rfl | simp, (Touch.refl _ w).alloc _⟩
              ·
                by_cases k4 : ck = 4
                ·
                  subst k4
                  clear k1
                  clear k2
                  clear k3
                  have HB := Lib.hid (show rgB ⟨4, cr, cd, cf⟩ = (decide (2 + cr + cd ≤ 32) && (decide (1 ≤ cr) && (decide (2 ≤ cd) && !cf))) by rw [← smB_sum (c := ⟨4, cr, cd, cf⟩) p0 p1]; rfl)
                  rw [HB.out]
                  by_cases h0 : 2 + cr + cd ≤ 32
                  ·
                    rw [decide_eq_true h0]
                    by_cases h1 : 1 ≤ cr
                    ·
                      rw [decide_eq_true h1]
                      by_cases h2 : 2 ≤ cd
                      ·
                        rw [decide_eq_true h2]
                        go_enter Try.func32, Try.ntmps32
                        go_wp2_with fail
                        go_ret
                        exact ⟨by first | rfl | simp, (Touch.refl _ w).alloc _⟩
                      ·
                        rw [decide_eq_false h2]
                        have h2' : cd < 2 := by omega
                        go_enter Try.func32, Try.ntmps32
                        go_wp2_with fail
                        go_ret
                        exact ⟨by first | rfl | simp, (Touch.refl _ w).alloc _⟩
                    ·
                      rw [decide_eq_false h1]
                      have h1' : cr < 1 := by omega
                      go_enter Try.func32, Try.ntmps32
                      go_wp2_with fail
                      go_ret
                      exact ⟨by first | rfl | simp, (Touch.refl _ w).alloc _⟩
                  ·
                    rw [decide_eq_false h0]
                    have h0' : 32 < 2 + cr + cd := by omega
                    go_enter Try.func32, Try.ntmps32
                    go_wp2_with fail
                    go_ret
                    exact ⟨by first | rfl | simp, (Touch.refl _ w).alloc _⟩
                ·
                  by_cases k5 : ck = 5
                  ·
                    subst k5
                    clear k1
                    clear k2
                    clear k3
                    clear k4
                    have HB := Lib.hid (show rgB ⟨5, cr, cd, cf⟩ = (decide (2 + cr + cd ≤ 32) && (decide (1 ≤ cr) && (decide (2 ≤ cd) && !cf))) by rw [← smB_sum (c := ⟨5, cr, cd, cf⟩) p0 p1]; rfl)
                    rw [HB.out]
                    by_cases h0 : 2 + cr + cd ≤ 32
                    ·
                      rw [decide_eq_true h0]
                      by_cases h1 : 1 ≤ cr
                      ·
                        rw [decide_eq_true h1]
                        by_cases h2 : 2 ≤ cd
                        ·
                          rw [decide_eq_true h2]
                          go_enter Try.func32, Try.ntmps32
                          go_wp2_with fail
                          go_ret
                          exact ⟨by first | rfl | simp, (Touch.refl _ w).alloc _⟩
                        ·
                          rw [decide_eq_false h2]
                          have h2' : cd < 2 := by omega
                          go_enter Try.func32, Try.ntmps32
                          go_wp2_with fail
                          go_ret
                          exact ⟨by first | rfl | simp, (Touch.refl _ w).alloc _⟩
                      ·
                        rw [decide_eq_false h1]
                        have h1' : cr < 1 := by omega
                        go_enter Try.func32, Try.ntmps32
                        go_wp2_with fail
                        go_ret
                        exact ⟨by first | rfl | simp, (Touch.refl _ w).alloc _⟩
                    ·
                      rw [decide_eq_false h0]
                      have h0' : 32 < 2 + cr + cd := by omega
                      go_enter Try.func32, Try.ntmps32
                      go_wp2_with fail
                      go_ret
                      exact ⟨by first | rfl | simp, (Touch.refl _ w).alloc _⟩
                  ·
                    have HB := Lib.hid (show rgB ⟨ck, cr, cd, cf⟩ = false by simp [rgB, k1, k2, k3, k4, k5])
                    rw [HB.out]
                    have n1 : (ck == 1) = false := by simpa using k1
                    have n2 : (ck == 2) = false := by simpa using k2
                    have n3 : (ck == 3) = false := by simpa using k3
                    have n4 : (ck == 4) = false := by simpa using k4
                    have n5 : (ck == 5) = false := by simpa using k5
                    clear k1 k2 k3 k4 k5
                    go_enter Try.func32, Try.ntmps32
                    go_wp2_with fail
                    go_ret
                    exact ⟨rfl, (Touch.refl _ w).alloc _⟩

/-- The error of a list of classes. -/
def newE (C : Nat → Cl) (n : Nat) : Int := if ∀ j, j < n → rgB (C j) = true then (if 64 ≤ n then 3 else 0) else 1
theorem newE_zero {C : Nat → Cl} {n : Nat} : newE C n = 0 ↔ (∀ j, j < n → rgB (C j) = true) ∧ n < 64 := by
  unfold newE
  by_cases h : ∀ j, j < n → rgB (C j) = true
  · rw [if_pos h]
    by_cases h2 : 64 ≤ n
    · rw [if_pos h2]; exact ⟨fun e => (by cases e), fun e => (by omega)⟩
    · rw [if_neg h2]; exact ⟨fun _ => ⟨h, by omega⟩, fun _ => rfl⟩
  · rw [if_neg h]; exact ⟨fun e => (by cases e), fun e => absurd e.1 h⟩
set_option maxHeartbeats 1000000 in
theorem rnew_cls (A : Option Addr) (n cap : Nat) (C : Nat → Cl) (w : World) (hr : Rd w A (n * 4) (clF C)) (hn : n ≤ 9223372036854775807) :
    Calls Try.prog 10 #[.slice A n cap] w fun e w' => e = .returned (.int .i64 (newE C n)) ∧ Keeps w w' := by
  go_enter Try.func10, Try.ntmps10
  go_wp2_with fail
  go_loopw [6] (fun i wr => ∃ k : Nat, k ≤ n ∧ i = .int .i64 k ∧ (∀ j, j < k → rgB (C j) = true) ∧ Keeps w wr) (fun i _ => n - (intOf i).toNat)
  case atStart => exact ⟨0, Nat.zero_le _, rfl, fun j h => by omega, Touch.refl _ _⟩
  case round =>
    obtain ⟨k, hk, rfl, hall, K⟩ := hrel
    have HA := Lib.hid hall
    clear hall
    by_cases hlt : k < n
    · obtain ⟨b, off, rfl, c0, c1, c2, c3⟩ := cl_cells (hr.keep K) hlt
      have HR := Lib.hid (rright_cls (C k).kind (C k).refs (C k).data (C k).fin wr)
      generalize hx : C k = x at *
      have HX := Lib.hid hx
      clear hx
      obtain ⟨xk, xr, xd, xf⟩ := x
      dsimp only at *
      generalize hB : rgB ⟨xk, xr, xd, xf⟩ = B at *
      have HB := Lib.hid hB
      clear hB
      go_wp2_with fail
      refine (HR.out).mono ?_
      rintro e w1 ⟨rfl, k1⟩
      cases B with
      | false =>
        go_wp2_with fail
        go_ret
        exact ⟨by
          have : newE C n = 1 := by
            unfold newE
            rw [if_neg]
            intro h
            have := h k hlt
            rw [HX.out, HB.out] at this
            cases this
          rw [this]; rfl, K.trans k1⟩
      | true =>
        go_wp2_with fail
        go_roundw
        case rel => exact ⟨k + 1, by omega, by go_num, fun j h => by
          rcases (by omega : j < k ∨ j = k) with h' | rfl
          · exact HA.out j h'
          · rw [HX.out]; exact HB.out, K.trans k1⟩
        case measure => simp [intOf]; omega
    · have HE : k = n := by omega
      by_cases h64 : 64 ≤ n
      · have HV := Lib.hid (show newE C n = 3 by unfold newE; rw [if_pos (by rw [← HE]; exact HA.out), if_pos h64])
        have h64' : (64 : Int) ≤ (n : Int) := by omega
        subst HE
        go_wp2_with fail
        go_ret
        exact ⟨by rw [HV.out]; rfl, K⟩
      · have HV := Lib.hid (show newE C n = 0 by unfold newE; rw [if_pos (by rw [← HE]; exact HA.out), if_neg h64])
        have h64' : (n : Int) < 64 := by omega
        subst HE
        go_wp2_with fail
        go_ret
        exact ⟨by rw [HV.out]; rfl, K⟩

theorem zero_cl5 (w : World) : (zeroValue 53).run Try.prog w = .ok (.agg #[.int .i64 0, .int .i64 0, .int .i64 0, .bool false]) w := by kernel_rfl
set_option maxHeartbeats 1000000 in
theorem rshape_any (A : Option Addr) (m cap : Nat) (C : Nat → Cl) (w : World) (hr : Rd w A (m * 4) (clF C)) (hC : ∀ j, j < m → (C j).ok) (hm : m ≤ 1000000) (a len : Int) :
    Calls Try.prog 39 #[.slice A m cap, .int .i64 a, .int .i64 len] w fun e w' => e = .returned (.tuple #[.int .i64 (shR C m a len), .int .i64 (shD C m a len), .int .i64 (shE C m a len)]) ∧ Keeps w w' := by
  have hz := zero_cl5
  by_cases ha : 1 ≤ a ∧ a ≤ m
  · obtain ⟨k, hk, rfl⟩ : ∃ k : Nat, k < m ∧ a = (k : Int) + 1 := ⟨(a - 1).toNat, by omega, by omega⟩
    have hkk : ((k : Int) + 1 - 1).toNat = k := by omega
    obtain ⟨b, off, rfl, c0, c1, c2, c3⟩ := cl_cells hr hk
    obtain ⟨o1, o2, o3, o4, o5⟩ := hC k hk
    unfold shR shD
    have hE : shE C m ((k : Int) + 1) len = if len < 0 ∨ (0 < len ∧ (C k).kind ≠ 2) then 1 else if 30 < len then 8 else 0 := by
      unfold shE
      rw [if_neg (by simpa using ha), hkk]
    rw [hkk, hE]
    clear hE hkk ha hr hC
    generalize C k = c at *
    obtain ⟨ck, cr, cd, cf⟩ := c
    dsimp only at *
    have i1 : ¬ ((k : Int) + 1 < 1) := by omega
    have i2 : ¬ ((m : Int) < (k : Int) + 1) := by omega
    have i3 : (0 : Int) ≤ (k : Int) := by omega
    have i4 : (k : Int) < (m : Int) := by omega
    have i5 : IntKind.i64.wrap ((k : Int) + 1 - 1) = (k : Int) := by rw [Int.add_sub_cancel]; exact IntWalk.i64_in _ ⟨by omega, by omega⟩
    by_cases h1 : len < 0
    · have hEv : (if len < 0 ∨ (0 < len ∧ ck ≠ 2) then (1 : Int) else if 30 < len then 8 else 0) = 1 := if_pos (.inl h1)
      rw [hEv, if_neg (by decide), if_neg (by decide)]
      clear hEv
      go_enter Try.func39, Try.ntmps39
      go_wp2_with fail
      go_returns
      exact ⟨rfl, (Touch.refl _ w).alloc _⟩
    · have p1 : 0 ≤ len := by omega
      by_cases h0 : len = 0
      · subst h0
        have w1 : IntKind.i64.wrap cr = cr := IntWalk.i64_in _ ⟨by omega, by omega⟩
        have w2 : IntKind.i64.wrap (cr + 0) = cr + 0 := IntWalk.i64_in _ ⟨by omega, by omega⟩
        have hEv : (if (0 : Int) < 0 ∨ ((0 : Int) < 0 ∧ ck ≠ 2) then (1 : Int) else if (30 : Int) < 0 then 8 else 0) = 0 := by simp
        rw [hEv, if_pos rfl, if_pos rfl]
        clear hEv
        go_enter Try.func39, Try.ntmps39
        go_wp2_with fail
        go_quiet (fail)
        go_wp2_with fail
        go_returns
        exact ⟨by rw [Int.add_zero]; rfl, ((Touch.refl _ w).alloc _).drewN _⟩
      · have p2 : 0 < len := by omega
        have p3 : (len != 0) = true := by simpa using h0
        by_cases h2 : ck = 2
        · subst h2
          by_cases h3 : 30 < len
          · have hEv : (if len < 0 ∨ (0 < len ∧ (2 : Int) ≠ 2) then (1 : Int) else if 30 < len then 8 else 0) = 8 := by rw [if_neg (by simp; omega), if_pos h3]
            rw [hEv, if_neg (by decide), if_neg (by decide)]
            clear hEv
            go_enter Try.func39, Try.ntmps39
            go_wp2_with fail
            go_returns
            exact ⟨rfl, (Touch.refl _ w).alloc _⟩
          · have hEv : (if len < 0 ∨ (0 < len ∧ (2 : Int) ≠ 2) then (1 : Int) else if 30 < len then 8 else 0) = 0 := by rw [if_neg (by simp; omega), if_neg h3]
            rw [hEv, if_pos rfl, if_pos rfl]
            clear hEv
            have w2 : IntKind.i64.wrap (cr + len) = cr + len := IntWalk.i64_in _ ⟨by omega, by omega⟩
            go_enter Try.func39, Try.ntmps39
            go_wp2_with fail
            go_quiet (fail)
            go_wp2_with fail
            go_returns
            exact ⟨rfl, ((Touch.refl _ w).alloc _).drewN _⟩
        · have hEv : (if len < 0 ∨ (0 < len ∧ ck ≠ 2) then (1 : Int) else if 30 < len then 8 else 0) = 1 := if_pos (.inr ⟨p2, h2⟩)
          rw [hEv, if_neg (by decide), if_neg (by decide)]
          have p4 : (ck != 2) = true := by simpa using h2
          clear hEv h2
          go_enter Try.func39, Try.ntmps39
          go_wp2_with fail
          go_returns
          exact ⟨rfl, (Touch.refl _ w).alloc _⟩
  · have hE : shE C m a len = 4 := if_pos ha
    unfold shR shD
    rw [hE, if_neg (by decide), if_neg (by decide)]
    clear hE hr hC
    by_cases h1 : a < 1
    · go_enter Try.func39, Try.ntmps39
      go_wp2_with fail
      go_returns
      exact ⟨rfl, Touch.refl _ w⟩
    · have h2 : (m : Int) < a := by omega
      clear ha
      go_enter Try.func39, Try.ntmps39
      go_wp2_with fail
      go_returns
      exact ⟨rfl, Touch.refl _ w⟩

end Go.Proofs.Ytabfbgkablbeeaa
