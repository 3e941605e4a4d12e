/- Layer 5, class: Right, New. -/
import Derived.Test.YtabfbgkablbeeaaG04
import Derived.Test.YtabfbgkablbeeaaG01
import Derived.WalkSpells
set_option linter.all false

namespace Go.Proofs.Ytabfbgkablbeeaa
open Go.RowKit

theorem cl_cells {w : World} {A : Option Addr} {m : Nat} {C : Nat → Cl} (h : Rd w A (m * 4) (clF C)) {k : Nat} (hk : k < m) :
    ∃ b off, A = some ⟨b, off, none⟩ ∧ w.cell? ⟨b, off + k * 4, none⟩ = some (.int .i64 (C k).kind) ∧ w.cell? ⟨b, off + k * 4 + 1, none⟩ = some (.int .i64 (C k).refs) ∧ w.cell? ⟨b, off + k * 4 + 2, none⟩ = some (.int .i64 (C k).data) ∧ w.cell? ⟨b, off + k * 4 + 3, none⟩ = some (.bool (C k).fin) := by
  obtain ⟨b, off, e, hc⟩ := h.at_ (k := k) hk (by omega)
  refine ⟨b, off, e, ?_, ?_, ?_, ?_⟩
  · have := hc 0 (by omega)
    simpa [clF] using this
  · have := hc 1 (by omega)
    have e1 : (k * 4 + 1) / 4 = k := by omega
    have e2 : (k * 4 + 1) % 4 = 1 := by omega
    simpa [clF, e1, e2] using this
  · have := hc 2 (by omega)
    have e1 : (k * 4 + 2) / 4 = k := by omega
    have e2 : (k * 4 + 2) % 4 = 2 := by omega
    simpa [clF, e1, e2] using this
  · have := hc 3 (by omega)
    have e1 : (k * 4 + 3) / 4 = k := by omega
    have e2 : (k * 4 + 3) % 4 = 3 := by omega
    simpa [clF, e1, e2] using this
def smB (c : Cl) : Bool := decide (0 ≤ c.refs) && (decide (0 ≤ c.data) && (decide (c.refs ≤ 30) && decide (c.data ≤ 30 - c.refs)))
def rgB (c : Cl) : Bool :=
  if c.kind = 1 then smB c else if c.kind = 2 then (c.refs == 0 && c.data == 0)
  else if c.kind = 3 ∨ c.kind = 4 ∨ c.kind = 5 then smB c && (decide (1 ≤ c.refs) && (decide (2 ≤ c.data) && !c.fin)) else false
theorem smB_ok {c : Cl} (h : smB c = true) : c.ok := by
  simp [smB] at h
  unfold Cl.ok
  omega
theorem rgB_ok {c : Cl} (h : rgB c = true) : c.ok := by
  unfold rgB at h
  by_cases h1 : c.kind = 1
  · rw [if_pos h1] at h; exact smB_ok h
  · rw [if_neg h1] at h
    by_cases h2 : c.kind = 2
    · rw [if_pos h2] at h
      simp at h
      unfold Cl.ok
      omega
    · rw [if_neg h2] at h
      by_cases h3 : c.kind = 3 ∨ c.kind = 4 ∨ c.kind = 5
      · rw [if_pos h3] at h
        exact smB_ok (by cases hs : smB c <;> simp [hs] at h ⊢)
      · rw [if_neg h3] at h; cases h

theorem small_any (ck cr cd : Int) (cf : Bool) (w : World) :
    Calls Try.prog 66 #[.agg #[.int .i64 ck, .int .i64 cr, .int .i64 cd, .bool cf]] w fun e w' => e = .returned (.bool (smB ⟨ck, cr, cd, cf⟩)) ∧ Keeps w w' := by
  by_cases h0 : 0 ≤ cr
  ·
    by_cases h1 : 0 ≤ cd
    ·
      by_cases h2 : cr ≤ 30
      ·
        by_cases h3 : cd ≤ 30 - cr
        ·
          have HB := Lib.hid (show smB ⟨ck, cr, cd, cf⟩ = true by simp [smB]; omega)
          rw [HB.out]
          have g1 : IntKind.i64.wrap (30 - cr) = 30 - cr := IntWalk.i64_in _ ⟨by omega, by omega⟩
          go_enter Try.func66, Try.ntmps66
          go_wp2_with fail
          go_ret
          exact ⟨rfl, (Touch.refl _ w).alloc _⟩
        ·
          have n3 : 30 - cr < cd := by omega
          have HB := Lib.hid (show smB ⟨ck, cr, cd, cf⟩ = false by simp [smB]; omega)
          rw [HB.out]
          have g1 : IntKind.i64.wrap (30 - cr) = 30 - cr := IntWalk.i64_in _ ⟨by omega, by omega⟩
          go_enter Try.func66, Try.ntmps66
          go_wp2_with fail
          go_ret
          exact ⟨rfl, (Touch.refl _ w).alloc _⟩
      ·
        have n2 : 30 < cr := by omega
        have HB := Lib.hid (show smB ⟨ck, cr, cd, cf⟩ = false by simp [smB]; omega)
        rw [HB.out]
        go_enter Try.func66, Try.ntmps66
        go_wp2_with fail
        go_ret
        exact ⟨rfl, (Touch.refl _ w).alloc _⟩
    ·
      have n1 : cd < 0 := by omega
      have HB := Lib.hid (show smB ⟨ck, cr, cd, cf⟩ = false by simp [smB]; omega)
      rw [HB.out]
      go_enter Try.func66, Try.ntmps66
      go_wp2_with fail
      go_ret
      exact ⟨rfl, (Touch.refl _ w).alloc _⟩
  ·
    have n0 : cr < 0 := by omega
    have HB := Lib.hid (show smB ⟨ck, cr, cd, cf⟩ = false by simp [smB]; omega)
    rw [HB.out]
    go_enter Try.func66, Try.ntmps66
    go_wp2_with fail
    go_ret
    exact ⟨rfl, (Touch.refl _ w).alloc _⟩

set_option maxHeartbeats 1000000 in
theorem cright_any (ck cr cd : Int) (cf : Bool) (w : World) :
    Calls Try.prog 35 #[.agg #[.int .i64 ck, .int .i64 cr, .int .i64 cd, .bool cf]] w fun e w' => e = .returned (.bool (rgB ⟨ck, cr, cd, cf⟩)) ∧ Keeps w w' := by
  have HS := Lib.hid (fun w => small_any ck cr cd cf w)
  by_cases k1 : ck = 1
  ·
    subst k1
    have HB := Lib.hid (show rgB ⟨1, cr, cd, cf⟩ = smB ⟨1, cr, cd, cf⟩ from rfl)
    rw [HB.out]
    generalize smB ⟨1, cr, cd, cf⟩ = B at *
    go_enter Try.func35, Try.ntmps35
    go_wp2_with fail
    refine named (fun W1 hW1 => ?_)
    have KW1 : Keeps w W1 := by rw [hW1]; exact ((Touch.refl _ w).alloc _)
    have BW1_C : BL W1 (w.heap.size) 53 [.int .i64 1, .int .i64 cr, .int .i64 cd, .bool cf] := by rw [hW1]; exact (BL.new1 _ _ _ [.int .i64 1, .int .i64 cr, .int .i64 cd, .bool cf] _ (by simp) rfl)
    have zW1 : w.heap.size + 1 ≤ W1.heap.size := by rw [hW1]; simp
    clear hW1
    have l2 := BW1_C.lt
    refine Calls.mono (HS.out _) ?_
    rintro e w3 ⟨rfl, kw3⟩
    have Kw3 := Keeps.trans KW1 kw3
    have Bw3_C := BL.keep BW1_C kw3
    have zw3 := kw3.size
    clear l2 BW1_C KW1 kw3
    have l4 := Bw3_C.lt
    go_wp2_with fail
    go_ret
    exact ⟨rfl, Kw3⟩
  ·
    by_cases k2 : ck = 2
    ·
      subst k2
      clear k1
      have HB := Lib.hid (show rgB ⟨2, cr, cd, cf⟩ = (cr == 0 && cd == 0) from rfl)
      rw [HB.out]
      clear HS
      cases h1 : (cr == 0) with
      | false =>
        go_enter Try.func35, Try.ntmps35
        go_wp2_with fail
        go_ret
        exact ⟨rfl, (Touch.refl _ w).alloc _⟩
      | true =>
        go_enter Try.func35, Try.ntmps35
        go_wp2_with fail
        go_ret
        exact ⟨by simp, (Touch.refl _ w).alloc _⟩
    ·
      by_cases k3 : ck = 3
      ·
        subst k3
        clear k1
        clear k2
        have HB := Lib.hid (show rgB ⟨3, cr, cd, cf⟩ = (smB ⟨3, cr, cd, cf⟩ && (decide (1 ≤ cr) && (decide (2 ≤ cd) && !cf))) from rfl)
        rw [HB.out]
        generalize smB ⟨3, cr, cd, cf⟩ = B at *
        go_enter Try.func35, Try.ntmps35
        go_wp2_with fail
        refine named (fun W5 hW5 => ?_)
        have KW5 : Keeps w W5 := by rw [hW5]; exact ((Touch.refl _ w).alloc _)
        have BW5_C : BL W5 (w.heap.size) 53 [.int .i64 3, .int .i64 cr, .int .i64 cd, .bool cf] := by rw [hW5]; exact (BL.new1 _ _ _ [.int .i64 3, .int .i64 cr, .int .i64 cd, .bool cf] _ (by simp) rfl)
        have zW5 : w.heap.size + 1 ≤ W5.heap.size := by rw [hW5]; simp
        clear hW5
        have l6 := BW5_C.lt
        refine Calls.mono (HS.out _) ?_
        rintro e w7 ⟨rfl, kw7⟩
        have Kw7 := Keeps.trans KW5 kw7
        have Bw7_C := BL.keep BW5_C kw7
        have zw7 := kw7.size
        clear l6 BW5_C KW5 kw7
        have l8 := Bw7_C.lt
        have c9 : w7.cell? ⟨w.heap.size, 1, none⟩ = some (.int .i64 cr) := Bw7_C.c 1 _ rfl
        have c10 : w7.cell? ⟨w.heap.size, 2, none⟩ = some (.int .i64 cd) := Bw7_C.c 2 _ rfl
        have c11 : w7.cell? ⟨w.heap.size, 3, none⟩ = some (.bool cf) := Bw7_C.c 3 _ rfl
        cases B with
        | false =>
          go_wp2_with fail
          go_ret
          exact ⟨rfl, Kw7⟩
        | true =>
          by_cases h1 : 1 ≤ cr
          ·
            have d1 := Lib.hid (decide_eq_true h1)
            by_cases h2 : 2 ≤ cd
            ·
              have d2 := Lib.hid (decide_eq_true h2)
              go_wp2_with fail
              go_ret
              exact ⟨by first | (rw [d1.out, d2.out]; rfl) | (rw [d2.out]; rfl), Kw7⟩
            ·
              have d2 := Lib.hid (decide_eq_false h2)
              go_wp2_with fail
              go_ret
              exact ⟨by first | (rw [d1.out, d2.out]; rfl) | (rw [d2.out]; rfl), Kw7⟩
          ·
            have d1 := Lib.hid (decide_eq_false h1)
            go_wp2_with fail
            go_ret
            exact ⟨by rw [d1.out]; rfl, Kw7⟩
      ·
        by_cases k4 : ck = 4
        ·
          subst k4
          clear k1
          clear k2
          clear k3
          have HB := Lib.hid (show rgB ⟨4, cr, cd, cf⟩ = (smB ⟨4, cr, cd, cf⟩ && (decide (1 ≤ cr) && (decide (2 ≤ cd) && !cf))) from rfl)
          rw [HB.out]
          generalize smB ⟨4, cr, cd, cf⟩ = B at *
          go_enter Try.func35, Try.ntmps35
          go_wp2_with fail
          refine named (fun W12 hW12 => ?_)
          have KW12 : Keeps w W12 := by rw [hW12]; exact ((Touch.refl _ w).alloc _)
          have BW12_C : BL W12 (w.heap.size) 53 [.int .i64 4, .int .i64 cr, .int .i64 cd, .bool cf] := by rw [hW12]; exact (BL.new1 _ _ _ [.int .i64 4, .int .i64 cr, .int .i64 cd, .bool cf] _ (by simp) rfl)
          have zW12 : w.heap.size + 1 ≤ W12.heap.size := by rw [hW12]; simp
          clear hW12
          have l13 := BW12_C.lt
          refine Calls.mono (HS.out _) ?_
          rintro e w14 ⟨rfl, kw14⟩
          have Kw14 := Keeps.trans KW12 kw14
          have Bw14_C := BL.keep BW12_C kw14
          have zw14 := kw14.size
          clear l13 BW12_C KW12 kw14
          have l15 := Bw14_C.lt
          have c16 : w14.cell? ⟨w.heap.size, 1, none⟩ = some (.int .i64 cr) := Bw14_C.c 1 _ rfl
          have c17 : w14.cell? ⟨w.heap.size, 2, none⟩ = some (.int .i64 cd) := Bw14_C.c 2 _ rfl
          have c18 : w14.cell? ⟨w.heap.size, 3, none⟩ = some (.bool cf) := Bw14_C.c 3 _ rfl
          cases B with
          | false =>
            go_wp2_with fail
            go_ret
            exact ⟨rfl, Kw14⟩
          | true =>
            by_cases h1 : 1 ≤ cr
            ·
              have d1 := Lib.hid (decide_eq_true h1)
              by_cases h2 : 2 ≤ cd
              ·
                have d2 := Lib.hid (decide_eq_true h2)
                go_wp2_with fail
                go_ret
                exact ⟨by first | (rw [d1.out, d2.out]; rfl) | (rw [d2.out]; rfl), Kw14⟩
              ·
                have d2 := Lib.hid (decide_eq_false h2)
                go_wp2_with fail
                go_ret
                exact ⟨by first | (rw [d1.out, d2.out]; rfl) | (rw [d2.out]; rfl), Kw14⟩
            ·
              have d1 := Lib.hid (decide_eq_false h1)
              go_wp2_with fail
              go_ret
              exact ⟨by rw [d1.out]; rfl, Kw14⟩
        ·
          by_cases k5 : ck = 5
          ·
            subst k5
            clear k1
            clear k2
            clear k3
            clear k4
            have HB := Lib.hid (show rgB ⟨5, cr, cd, cf⟩ = (smB ⟨5, cr, cd, cf⟩ && (decide (1 ≤ cr) && (decide (2 ≤ cd) && !cf))) from rfl)
            rw [HB.out]
            generalize smB ⟨5, cr, cd, cf⟩ = B at *
            go_enter Try.func35, Try.ntmps35
            go_wp2_with fail
            refine named (fun W19 hW19 => ?_)
            have KW19 : Keeps w W19 := by rw [hW19]; exact ((Touch.refl _ w).alloc _)
            have BW19_C : BL W19 (w.heap.size) 53 [.int .i64 5, .int .i64 cr, .int .i64 cd, .bool cf] := by rw [hW19]; exact (BL.new1 _ _ _ [.int .i64 5, .int .i64 cr, .int .i64 cd, .bool cf] _ (by simp) rfl)
            have zW19 : w.heap.size + 1 ≤ W19.heap.size := by rw [hW19]; simp
            clear hW19
            have l20 := BW19_C.lt
            refine Calls.mono (HS.out _) ?_
            rintro e w21 ⟨rfl, kw21⟩
            have Kw21 := Keeps.trans KW19 kw21
            have Bw21_C := BL.keep BW19_C kw21
            have zw21 := kw21.size
            clear l20 BW19_C KW19 kw21
            have l22 := Bw21_C.lt
            have c23 : w21.cell? ⟨w.heap.size, 1, none⟩ = some (.int .i64 cr) := Bw21_C.c 1 _ rfl
            have c24 : w21.cell? ⟨w.heap.size, 2, none⟩ = some (.int .i64 cd) := Bw21_C.c 2 _ rfl
            have c25 : w21.cell? ⟨w.heap.size, 3, none⟩ = some (.bool cf) := Bw21_C.c 3 _ rfl
            cases B with
            | false =>
              go_wp2_with fail
              go_ret
              exact ⟨rfl, Kw21⟩
            | true =>
              by_cases h1 : 1 ≤ cr
              ·
                have d1 := Lib.hid (decide_eq_true h1)
                by_cases h2 : 2 ≤ cd
                ·
                  have d2 := Lib.hid (decide_eq_true h2)
                  go_wp2_with fail
                  go_ret
                  exact ⟨by first | (rw [d1.out, d2.out]; rfl) | (rw [d2.out]; rfl), Kw21⟩
                ·
                  have d2 := Lib.hid (decide_eq_false h2)
                  go_wp2_with fail
                  go_ret
                  exact ⟨by first | (rw [d1.out, d2.out]; rfl) | (rw [d2.out]; rfl), Kw21⟩
              ·
                have d1 := Lib.hid (decide_eq_false h1)
                go_wp2_with fail
                go_ret
                exact ⟨by rw [d1.out]; rfl, Kw21⟩
          ·
            have HB := Lib.hid (show rgB ⟨ck, cr, cd, cf⟩ = false by simp [rgB, *])
            rw [HB.out]
            have n1 : (ck == 1) = false := by simpa using k1
            have n2 : (ck == 2) = false := by simpa using k2
            have n3 : (ck == 3) = false := by simpa using k3
            have n4 : (ck == 4) = false := by simpa using k4
            have n5 : (ck == 5) = false := by simpa using k5
            clear k1 k2 k3 k4 k5
            go_enter Try.func35, Try.ntmps35
            go_wp2_with fail
            go_ret
            exact ⟨rfl, (Touch.refl _ w).alloc _⟩

theorem run_cnew (ar : Array Value) (w : World) : (callFunc 34 ar).run Try.prog w = .ok (.enter 34 ar) w := by kernel_rfl
theorem cclos_any (ck cr cd : Int) (cf : Bool) (w : World) :
    Calls Try.prog 34 #[.agg #[.int .i64 ck, .int .i64 cr, .int .i64 cd, .bool cf]] w fun e w' => e = .returned (.bool (!rgB ⟨ck, cr, cd, cf⟩)) ∧ Keeps w w' := by
  have HS := Lib.hid (fun w => cright_any ck cr cd cf w)
  generalize rgB ⟨ck, cr, cd, cf⟩ = B at *
  go_enter Try.func34, Try.ntmps34
  go_wp2_with fail
  refine named (fun W1 hW1 => ?_)
  have KW1 : Keeps w W1 := by rw [hW1]; exact ((Touch.refl _ w).alloc _)
  have BW1_C : BL W1 (w.heap.size) 53 [.int .i64 ck, .int .i64 cr, .int .i64 cd, .bool cf] := by rw [hW1]; exact (BL.new1 _ _ _ [.int .i64 ck, .int .i64 cr, .int .i64 cd, .bool cf] _ (by simp) rfl)
  have zW1 : w.heap.size + 1 ≤ W1.heap.size := by rw [hW1]; simp
  clear hW1
  have l2 := BW1_C.lt
  refine Calls.mono (HS.out _) ?_
  rintro e w3 ⟨rfl, kw3⟩
  have Kw3 := Keeps.trans KW1 kw3
  have Bw3_C := BL.keep BW1_C kw3
  have zw3 := kw3.size
  clear l2 BW1_C KW1 kw3
  have l4 := Bw3_C.lt
  go_wp2_with fail
  go_ret
  exact ⟨rfl, Kw3⟩

set_option maxHeartbeats 1000000 in
theorem cindex_any (A : Option Addr) (n cap : Nat) (C : Nat → Cl) (w : World) (hr : Rd w A (n * 4) (clF C)) (hn : n ≤ 9223372036854775807) :
    Calls Try.prog 65 #[.slice A n cap, .func (.func 34) #[] #[]] w fun e w' => ∃ i : Int, e = .returned (.int .i64 i) ∧ (0 ≤ i ↔ ¬ ∀ j, j < n → rgB (C j) = true) ∧ Keeps w w' := by
  have hcall := run_cnew
  go_enter Try.func65, Try.ntmps65
  go_wp2_with fail
  go_loopw [8] (fun i wr => ∃ k : Nat, k ≤ n ∧ i = .int .i64 k ∧ (∀ j, j < k → rgB (C j) = true) ∧ Keeps w wr) (fun i _ => n - (intOf i).toNat)
  case atStart => exact ⟨0, Nat.zero_le _, rfl, fun j h => by omega, Touch.refl _ _⟩
  case round =>
    obtain ⟨k, hk, rfl, hall, K⟩ := hrel
    have HA := Lib.hid hall
    clear hall
    by_cases hlt : k < n
    · obtain ⟨b, off, rfl, c0, c1, c2, c3⟩ := cl_cells (hr.keep K) hlt
      have HR := Lib.hid (cclos_any (C k).kind (C k).refs (C k).data (C k).fin wr)
      generalize hx : C k = x at *
      have HX := Lib.hid hx
      clear hx
      obtain ⟨xk, xr, xd, xf⟩ := x
      dsimp only at *
      generalize hB : rgB ⟨xk, xr, xd, xf⟩ = B at *
      have HB := Lib.hid hB
      clear hB
      go_wp2_with fail
      refine (HR.out).mono ?_
      rintro e w1 ⟨rfl, k1⟩
      cases B with
      | false =>
        go_wp2_with fail
        go_ret
        exact ⟨k, rfl, ⟨fun _ h => (by have := h k hlt; rw [HX.out, HB.out] at this; cases this), fun _ => by omega⟩, K.trans k1⟩
      | true =>
        go_wp2_with fail
        go_roundw
        case rel => exact ⟨k + 1, by omega, by go_num, fun j h => by
          rcases (by omega : j < k ∨ j = k) with h' | rfl
          · exact HA.out j h'
          · rw [HX.out]; exact HB.out, K.trans k1⟩
        case measure => simp [intOf]; omega
    · have HE : k = n := by omega
      go_wp2_with fail
      go_ret
      exact ⟨-1, rfl, ⟨fun h => by omega, fun h => absurd (by rw [← HE]; exact HA.out) h⟩, K⟩
theorem ccontains_any (A : Option Addr) (n cap : Nat) (C : Nat → Cl) (w : World) (hr : Rd w A (n * 4) (clF C)) (hn : n ≤ 9223372036854775807) :
    Calls Try.prog 33 #[.slice A n cap, .func (.func 34) #[] #[]] w fun e w' => ∃ b : Bool, e = .returned (.bool b) ∧ (b = true ↔ ¬ ∀ j, j < n → rgB (C j) = true) ∧ Keeps w w' := by
  have HI := Lib.hid (cindex_any A n cap C w hr hn)
  go_enter Try.func33, Try.ntmps33
  go_wp2_with fail
  refine Calls.mono HI.out ?_
  rintro e w1 ⟨i, rfl, hi, k1⟩
  have HII := Lib.hid hi
  clear hi
  go_wp2_with fail
  go_ret
  exact ⟨decide (0 ≤ i), rfl, by rw [decide_eq_true_iff]; exact HII.out, k1⟩

end Go.Proofs.Ytabfbgkablbeeaa
