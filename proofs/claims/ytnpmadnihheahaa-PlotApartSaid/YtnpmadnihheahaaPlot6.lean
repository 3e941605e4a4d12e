/- The laws PlotFinds and PlotApart. -/
import Derived.Test.YtnpmadnihheahaaPlot4
import Derived.Test.YtnpmadnihheahaaPlotC
namespace Go.Proofs.Ytnpmadnihheahaa
open Go.RowKit

/-- The cell at a place, or -1. -/
def wantI (x y : Int) (k : Nat) : Int := if ∃ n, n < k ∧ (St n).x = x ∧ (St n).y = y then idx x y else -1
theorem wantI_hit {x y : Int} {k n : Nat} (hk : k ≤ 4096) (hn : n < k) (hx : (St n).x = x) (hy : (St n).y = y) : wantI x y k = n := by
  unfold wantI
  rw [if_pos ⟨n, hn, hx, hy⟩, ← hx, ← hy]
  exact (sp n (by omega)).ix
theorem wantI_no {x y : Int} {k : Nat} (h : ∀ n, n < k → ¬ ((St n).x = x ∧ (St n).y = y)) : wantI x y k = -1 := by
  unfold wantI
  rw [if_neg (fun ⟨n, hn, hx, hy⟩ => h n hn ⟨hx, hy⟩)]
theorem wantI_cases (x y : Int) (k : Nat) (hk : k ≤ 4096) : (∃ n, n < k ∧ (St n).x = x ∧ (St n).y = y ∧ wantI x y k = n) ∨ ((∀ n, n < k → ¬ ((St n).x = x ∧ (St n).y = y)) ∧ wantI x y k = -1) := by
  by_cases h : ∃ n, n < k ∧ (St n).x = x ∧ (St n).y = y
  · obtain ⟨n, hn, hx, hy⟩ := h
    exact .inl ⟨n, hn, hx, hy, wantI_hit hk hn hx hy⟩
  · have h' : ∀ n, n < k → ¬ ((St n).x = x ∧ (St n).y = y) := fun n hn ⟨hx, hy⟩ => h ⟨n, hn, hx, hy⟩
    exact .inr ⟨h', wantI_no h'⟩
theorem wantI_succ {x y : Int} {k : Nat} (hk : k < 4096) : wantI x y (k + 1) = if (St k).x = x ∧ (St k).y = y then (k : Int) else wantI x y k := by
  by_cases h : (St k).x = x ∧ (St k).y = y
  · rw [if_pos h, wantI_hit (by omega) (Nat.lt_succ_self k) h.1 h.2]
  · rw [if_neg h]
    rcases wantI_cases x y k (by omega) with ⟨n, hn, hx, hy, e⟩ | ⟨hno, e⟩
    · rw [e, wantI_hit (by omega) (show n < k + 1 by omega) hx hy]
    · rw [e, wantI_no (fun n hn q => ?_)]
      by_cases e2 : n = k
      · subst e2; exact h q
      · exact hno n (by omega) q
theorem atR_want {x y : Int} (hx1 : -128 ≤ x) (hx2 : x ≤ 127) (hy1 : -128 ≤ y) (hy2 : y ≤ 127) {r f : Int} (h : AtR (fB x) (fB y) r f) : (0 ≤ wantI x y 4096 ∧ r = wantI x y 4096 ∧ f = 0) ∨ (wantI x y 4096 < 0 ∧ r = 0 ∧ f = 2) := by
  rcases wantI_cases x y 4096 (Nat.le_refl _) with ⟨n, hn, hx, hy, e⟩ | ⟨hno, e⟩
  · rw [← hx, ← hy] at h
    obtain ⟨h1, h2⟩ := atR_cell hn h
    exact .inl ⟨by omega, by omega, h2⟩
  · rcases h with ⟨hf, i, hr, hi, hmi, _⟩ | ⟨hf, hr, _⟩
    · rw [mt_iff _ _ hx1 (by omega) hy1 (by omega) i (by omega)] at hmi
      simp only [Bool.and_eq_true, decide_eq_true_eq] at hmi
      exact absurd hmi (hno i hi)
    · exact .inr ⟨by omega, hr, hf⟩

set_option maxRecDepth 100000 in
set_option maxHeartbeats 4000000 in
theorem finds_walk (x y : Int) (p q : Nat) (w : World) (hx1 : -128 ≤ x) (hx2 : x ≤ 127) (hy1 : -128 ≤ y) (hy2 : y ≤ 127) :
    Calls Try.prog 4 #[.int .i8 x, .int .i8 y, .float .f64 p, .float .f64 q] w fun e w' => e = .returned (.bool true) ∧ Keeps w w' := by
  have hW := fun w => rwalk_any 4096 w (by omega)
  rw [show min 4096 4096 = 4096 from rfl] at hW
  have HW := Lib.hid hW
  have HA : Hid (∀ r f, AtR (floatOfInt .f64 x) (floatOfInt .f64 y) r f → _) := fun r f h => atR_want hx1 hx2 hy1 hy2 h
  clear hW
  go_enter Try.func4, Try.ntmps4
  go_wp2_with fail
  refine (awake_any _).mono ?_
  rintro e w1 ⟨rfl, k1⟩
  go_wp2_with fail
  refine Calls.mono (HW.out _) ?_
  rintro e w2 ⟨a1, c1, a2, c2, rfl, r1, r2, k2⟩
  go_wp2_with fail
  go_loop [11, 27] (fun z i => ∃ k : Nat, k ≤ 4096 ∧ i = .int .i64 k ∧ z = .int .i64 (wantI x y k)) (fun _ i => 4096 - (intOf i).toNat)
  case atStart => exact ⟨0, Nat.zero_le _, rfl, by rw [wantI_no (fun n hn => absurd hn (by omega))]⟩
  case round =>
    obtain ⟨k, hk, rfl, rfl⟩ := hrel
    by_cases hlt : k < 4096
    · have HS := Lib.hid (wantI_succ (x := x) (y := y) hlt)
      obtain ⟨b1, p1, rfl, d1⟩ := r1.one hlt
      obtain ⟨b2, p2, rfl, d2⟩ := r2.one hlt
      have d1' : w2.cell? ⟨b1, p1 + k, none⟩ = some (.int .i64 (St k).x) := d1
      have d2' : w2.cell? ⟨b2, p2 + k, none⟩ = some (.int .i64 (St k).y) := d2
      clear d1 d2
      generalize (St k).x = sx at *
      generalize (St k).y = sy at *
      by_cases e1 : sx = x
      · have e1' : (sx == x) = true := by simp [e1]
        by_cases e2 : sy = y
        · have e2' : (sy == y) = true := by simp [e2]
          have HE := Lib.hid (And.intro e1 e2)
          clear e1 e2
          go_wp2_with fail
          go_round
          case rel => exact ⟨k + 1, by omega, by go_num, by rw [HS.out, if_pos HE.out]⟩
          case measure => simp [intOf]; omega
        · have e2' : (sy == y) = false := by simp [e2]
          have HE := Lib.hid (show ¬ (sx = x ∧ sy = y) from fun q => e2 q.2)
          clear e1 e2
          go_wp2_with fail
          go_round
          case rel => exact ⟨k + 1, by omega, by go_num, by rw [HS.out, if_neg HE.out]⟩
          case measure => simp [intOf]; omega
      · have e1' : (sx == x) = false := by simp [e1]
        have HE := Lib.hid (show ¬ (sx = x ∧ sy = y) from fun q => e1 q.1)
        clear e1
        go_wp2_with fail
        go_round
        case rel => exact ⟨k + 1, by omega, by go_num, by rw [HS.out, if_neg HE.out]⟩
        case measure => simp [intOf]; omega
    · obtain rfl : k = 4096 := by omega
      clear r1 r2
      go_wp2_with fail
      refine (at_any _ _ _).mono ?_
      rintro e w3 ⟨r, f, rfl, hr, k3⟩
      have hres := HA.out _ _ hr
      have K3 := Keeps.trans k1 (Keeps.trans k2 k3)
      clear hr k1 k2 k3 HA HW
      generalize wantI x y 4096 = want at *
      rcases hres with ⟨h0, rfl, rfl⟩ | ⟨h0, rfl, rfl⟩
      · have h0' : ¬ r < 0 := by omega
        go_wp2_with fail
        refine (at_any _ _ _).mono ?_
        rintro e w4 ⟨r2, f2, rfl, hr2, k4⟩
        have K4 := Keeps.trans K3 k4
        rcases hr2 with ⟨rfl, i, rfl, hi, hmi, _⟩ | ⟨rfl, rfl, _⟩
        · unfold mt at hmi
          rw [Bool.and_eq_true] at hmi
          obtain ⟨m1, m2⟩ := hmi
          have hPl := fun w => place_any (i : Int) w (by omega) (by omega)
          rw [Int.toNat_natCast] at hPl
          have HP := Lib.hid hPl
          clear hPl
          go_wp2_with fail
          refine Calls.mono (HP.out _) ?_
          rintro e w5 ⟨rfl, k5⟩
          go_wp2_with fail
          go_ret
          exact ⟨rfl, Keeps.trans K4 k5⟩
        · go_wp2_with fail
          go_ret
          exact ⟨rfl, K4⟩
      · have h0' : ¬ 0 ≤ want := by omega
        go_wp2_with fail
        refine (at_any _ _ _).mono ?_
        rintro e w4 ⟨r2, f2, rfl, hr2, k4⟩
        have K4 := Keeps.trans K3 k4
        rcases hr2 with ⟨rfl, i, rfl, hi, hmi, _⟩ | ⟨rfl, rfl, _⟩
        · unfold mt at hmi
          rw [Bool.and_eq_true] at hmi
          obtain ⟨m1, m2⟩ := hmi
          have hPl := fun w => place_any (i : Int) w (by omega) (by omega)
          rw [Int.toNat_natCast] at hPl
          have HP := Lib.hid hPl
          clear hPl
          go_wp2_with fail
          refine Calls.mono (HP.out _) ?_
          rintro e w5 ⟨rfl, k5⟩
          go_wp2_with fail
          go_ret
          exact ⟨rfl, Keeps.trans K4 k5⟩
        · go_wp2_with fail
          go_ret
          exact ⟨rfl, K4⟩
theorem tmod32 (x : Int) : -31 ≤ x.tmod 32 ∧ x.tmod 32 ≤ 31 := by
  have h2 := Int.tmod_lt_of_pos x (b := 32) (by decide)
  have h3 : -32 < x.tmod 32 := by
    rcases Int.le_total 0 x with h | h
    · have := Int.tmod_nonneg 32 h; omega
    · have e : x.tmod 32 = -((-x).tmod 32) := by rw [Int.neg_tmod, Int.neg_neg]
      have := Int.tmod_lt_of_pos (-x) (b := 32) (by decide)
      omega
  exact ⟨by omega, by omega⟩

set_option maxRecDepth 100000 in
set_option maxHeartbeats 4000000 in
theorem apart_walk (a b x y : Int) (w : World) (ha1 : 0 ≤ a) (ha2 : a ≤ 65535) (hb1 : 0 ≤ b) (hb2 : b ≤ 65535) :
    Calls Try.prog 7 #[.int .u16 a, .int .u16 b, .int .i8 x, .int .i8 y] w fun e w' => e = .returned (.bool true) ∧ Keeps w w' := by
  obtain ⟨x1, x2⟩ := tmod32 x
  obtain ⟨y1, y2⟩ := tmod32 y
  obtain ⟨n, hn, sx, sy⟩ := sq_ok (x.tmod 32) (y.tmod 32) x1 x2 y1 y2
  have HA : Hid (∀ r f : Int, AtR (floatOfInt .f64 (x.tmod 32)) (floatOfInt .f64 (y.tmod 32)) r f → r = n ∧ f = 0) := fun r f h => by
    rw [← sx, ← sy] at h
    exact atR_cell hn h
  have o1 : (FloatKind.f64.format.order (floatOfInt .f64 (x.tmod 32)) (floatOfInt .f64 (x.tmod 32)) == some .eq) = true := ord_self _ (by omega) (by omega)
  have o2 : (FloatKind.f64.format.order (floatOfInt .f64 (y.tmod 32)) (floatOfInt .f64 (y.tmod 32)) == some .eq) = true := ord_self _ (by omega) (by omega)
  have hP := fun w => place_any (n : Int) w (by omega) (by omega)
  rw [Int.toNat_natCast, sx, sy] at hP
  have HP : Hid (∀ w, Calls Try.prog 12 #[.int .i64 (n : Int)] w fun e w' => e = .returned (.tuple #[.complex .f64 (floatOfInt .f64 (x.tmod 32)) (floatOfInt .f64 (y.tmod 32)), .int .i64 0]) ∧ Keeps w w') := hP
  have hi : (a % 4096).toNat < 4096 := by omega
  have hk : (b % 4096).toNat < 4096 := by omega
  have q1 := sp _ (Nat.le_of_lt hi)
  have q2 := sp _ (Nat.le_of_lt hk)
  have e1 : (FloatKind.f64.format.order (fB (St (a % 4096).toNat).x) (fB (St (b % 4096).toNat).x) == some .eq) = decide ((St (a % 4096).toNat).x = (St (b % 4096).toNat).x) := ord_eq _ _ (by have := q1.x1; omega) (by have := q1.x2; omega) (by have := q2.x1; omega) (by have := q2.x2; omega)
  have e2 : (FloatKind.f64.format.order (fB (St (a % 4096).toNat).y) (fB (St (b % 4096).toNat).y) == some .eq) = decide ((St (a % 4096).toNat).y = (St (b % 4096).toNat).y) := ord_eq _ _ (by have := q1.y1; omega) (by have := q1.y2; omega) (by have := q2.y1; omega) (by have := q2.y2; omega)
  have hinj : (St (a % 4096).toNat).x = (St (b % 4096).toNat).x → (St (a % 4096).toNat).y = (St (b % 4096).toNat).y → a % 4096 = b % 4096 := fun hx hy => by
    have := sp_inj (Nat.le_of_lt hi) (Nat.le_of_lt hk) hx hy
    omega
  have HI := Lib.hid hinj
  have hcase : ((FloatKind.f64.format.order (fB (St (a % 4096).toNat).x) (fB (St (b % 4096).toNat).x) == some .eq) && (FloatKind.f64.format.order (fB (St (a % 4096).toNat).y) (fB (St (b % 4096).toNat).y) == some .eq)) = (a % 4096 == b % 4096) := by
    rw [e1, e2, Bool.eq_iff_iff]
    simp only [Bool.and_eq_true, decide_eq_true_eq, beq_iff_eq]
    exact ⟨fun h => hinj h.1 h.2, fun h => by rw [h]; exact ⟨rfl, rfl⟩⟩
  clear hP sx sy q1 q2 e1 e2 hinj hi hk
  generalize hpi : (FloatKind.f64.format.order (fB (St (a % 4096).toNat).x) (fB (St (b % 4096).toNat).x) == some .eq) = pi at hcase
  generalize hpk : (FloatKind.f64.format.order (fB (St (a % 4096).toNat).y) (fB (St (b % 4096).toNat).y) == some .eq) = pk at hcase
  generalize hpq : (a % 4096 == b % 4096) = pq at hcase
  cases pi <;> cases pk <;> cases pq <;> simp only [Bool.and_true, Bool.and_false, Bool.false_eq_true, Bool.true_eq_false] at hcase
  all_goals
    go_enter Try.func7, Try.ntmps7
    go_wp2_with fail
    refine (awake_any _).mono ?_
    rintro e w1 ⟨rfl, k1⟩
    go_wp2_with fail
    refine (place_any _ _ (by omega) (by omega)).mono ?_
    rintro e w2 ⟨rfl, k2⟩
    go_wp2_with fail
    refine (place_any _ _ (by omega) (by omega)).mono ?_
    rintro e w3 ⟨rfl, k3⟩
    go_wp2_with fail
    refine (at_any _ _ _).mono ?_
    rintro e w4 ⟨r, f, rfl, hr, k4⟩
    obtain ⟨rfl, rfl⟩ := HA.out _ _ hr
    clear hr
    go_wp2_with fail
    refine Calls.mono (HP.out _) ?_
    rintro e w5 ⟨rfl, k5⟩
    go_wp2_with fail
    go_ret
    exact ⟨rfl, Keeps.trans k1 (Keeps.trans k2 (Keeps.trans k3 (Keeps.trans k4 k5)))⟩
end Go.Proofs.Ytnpmadnihheahaa
