/- The law's own test; the law PlotPlaces. -/
import Derived.Test.YtnpmadnihheahaaPlot3
namespace Go.Proofs.Ytnpmadnihheahaa
open Go.RowKit

theorem mt_iff (x y : Int) (hx1 : -128 ≤ x) (hx2 : x ≤ 128) (hy1 : -128 ≤ y) (hy2 : y ≤ 128) (j : Nat) (hj : j ≤ 4096) : mt (fB x) (fB y) j = (decide ((St j).x = x) && decide ((St j).y = y)) := by
  have q := sp j hj
  unfold mt
  rw [ord_eq _ _ (by have := q.x1; omega) (by have := q.x2; omega) hx1 hx2, ord_eq _ _ (by have := q.y1; omega) (by have := q.y2; omega) hy1 hy2]
theorem atR_cell {n : Nat} (hn : n < 4096) {r f : Int} (h : AtR (fB (St n).x) (fB (St n).y) r f) : r = n ∧ f = 0 := by
  have q := sp n (by omega)
  have hm : ∀ j, j ≤ 4096 → mt (fB (St n).x) (fB (St n).y) j = (decide ((St j).x = (St n).x) && decide ((St j).y = (St n).y)) := fun j hj =>
    mt_iff _ _ (by have := q.x1; omega) (by have := q.x2; omega) (by have := q.y1; omega) (by have := q.y2; omega) j hj
  rcases h with ⟨hf, i, hr, hi, hmi, _⟩ | ⟨_, _, hno⟩
  · rw [hm i (by omega)] at hmi
    simp only [Bool.and_eq_true, decide_eq_true_eq] at hmi
    have := sp_inj (by omega) (by omega) hmi.1 hmi.2
    subst this
    exact ⟨hr, hf⟩
  · have := hno n hn
    rw [hm n (by omega)] at this
    simp at this
theorem ord_self (x : Int) (h1 : -33 ≤ x) (h2 : x ≤ 33) : (FloatKind.f64.format.order (fB x) (fB x) == some .eq) = true := by
  rw [ord_eq x x h1 h2 (by omega) (by omega)]; simp

theorem St4 : (St 4).x = -1 ∧ (St 4).y = 1 := by decide
theorem litm1 : fB (-1) = 13830554455654793216 := by decide +kernel
theorem litp1 : fB 1 = 4607182418800017408 := by decide +kernel

set_option maxHeartbeats 1000000 in
theorem awake_any (w : World) :
    Calls Try.prog 11 #[] w fun e w' => e = .returned (.bool true) ∧ Keeps w w' := by
  have hP := fun w => place_any 4 w (by omega) (by omega)
  rw [show (4 : Int).toNat = 4 from rfl, St4.1, St4.2, litm1, litp1] at hP
  have HP := Lib.hid hP
  have HA : Hid (∀ r f : Int, AtR 13830554455654793216 4607182418800017408 r f → r = 4 ∧ f = 0) := fun r f h => by
    rw [← litm1, ← litp1, ← St4.1, ← St4.2] at h
    exact atR_cell (n := 4) (by omega) h
  have o1 : (FloatKind.f64.format.order 13830554455654793216 13830554455654793216 == some .eq) = true := by decide +kernel
  have o2 : (FloatKind.f64.format.order 4607182418800017408 4607182418800017408 == some .eq) = true := by decide +kernel
  have t1 : rotN ((1 : Int) % 4).toNat 4611686018427387904 4613937818241073152 = (13837309855095848960, 4611686018427387904) := by decide +kernel
  have o3 : (FloatKind.f64.format.order 13837309855095848960 13837309855095848960 == some .eq) = true := by decide +kernel
  have o4 : (FloatKind.f64.format.order 4611686018427387904 4611686018427387904 == some .eq) = true := by decide +kernel
  have hT : ∀ w, Calls Try.prog 15 #[.complex .f64 4611686018427387904 4613937818241073152, .int .i64 1] w fun e w' => e = .returned (.complex .f64 13837309855095848960 4611686018427387904) ∧ w = w' := fun w =>
    (turn_any _ _ 1 w).mono fun e w' ⟨he, hw⟩ => ⟨by rw [he, t1], hw⟩
  have HT := Lib.hid hT
  clear hP t1 hT
  go_enter Try.func11, Try.ntmps11
  go_wp2_with fail
  refine Calls.mono (HP.out _) ?_
  rintro e w1 ⟨rfl, k1⟩
  go_wp2_with fail
  refine (at_any _ _ _).mono ?_
  rintro e w2 ⟨r, f, rfl, hr, k2⟩
  obtain ⟨rfl, rfl⟩ := HA.out _ _ hr
  go_wp2_with fail
  refine Calls.mono (HT.out _) ?_
  rintro e w3 ⟨rfl, rfl⟩
  go_wp2_with fail
  go_ret
  exact ⟨rfl, Keeps.trans k1 k2⟩

set_option maxRecDepth 100000 in
set_option maxHeartbeats 1000000 in
theorem places_walk (n : Int) (w : World) (hl : -9223372036854775808 ≤ n) (hh : n ≤ 9223372036854775807) :
    Calls Try.prog 3 #[.int .i64 n] w fun e w' => e = .returned (.bool true) ∧ Keeps w w' := by
  by_cases h : n < 0 ∨ 4096 ≤ n
  · have o1 : (FloatKind.f64.format.order 0 0 == some .eq) = true := by decide +kernel
    rcases h with h | h
    · go_enter Try.func3, Try.ntmps3
      go_wp2_with fail
      refine (awake_any _).mono ?_
      rintro e w1 ⟨rfl, k1⟩
      go_wp2_with fail
      refine (place_no n _ (by omega)).mono ?_
      rintro e w2 ⟨rfl, k2⟩
      go_wp2_with fail
      go_ret
      exact ⟨rfl, Keeps.trans k1 k2⟩
    · have h' : ¬ n < 0 := by omega
      go_enter Try.func3, Try.ntmps3
      go_wp2_with fail
      refine (awake_any _).mono ?_
      rintro e w1 ⟨rfl, k1⟩
      go_wp2_with fail
      refine (place_no n _ (by omega)).mono ?_
      rintro e w2 ⟨rfl, k2⟩
      go_wp2_with fail
      go_ret
      exact ⟨rfl, Keeps.trans k1 k2⟩
  · obtain ⟨n, rfl⟩ := Int.eq_ofNat_of_zero_le (show 0 ≤ n by omega)
    have hn : n < 4096 := by omega
    have q := sp n (by omega)
    have o1 := ord_self (St n).x (by have := q.x1; omega) (by have := q.x2; omega)
    have o2 := ord_self (St n).y (by have := q.y1; omega) (by have := q.y2; omega)
    have hP := fun w => place_any n w (by omega) (by omega)
    rw [Int.toNat_natCast] at hP
    have hW := fun w => rwalk_any (n + 1) w (by omega)
    rw [show min (n + 1) 4096 = n + 1 by omega] at hW
    have HP := Lib.hid hP
    have HW := Lib.hid hW
    have HA : Hid (∀ r f : Int, AtR (fB (St n).x) (fB (St n).y) r f → r = n ∧ f = 0) := fun r f h => atR_cell hn h
    have o3 : (FloatKind.f64.format.order (fB (St n).x) (floatOfInt .f64 (St n).x) == some .eq) = true := o1
    have o4 : (FloatKind.f64.format.order (fB (St n).y) (floatOfInt .f64 (St n).y) == some .eq) = true := o2
    have h1 : ¬ (n : Int) < 0 := by omega
    have h2 : ¬ (4096 : Int) ≤ (n : Int) := by omega
    clear hP hW h q
    go_enter Try.func3, Try.ntmps3
    go_wp2_with fail
    refine (awake_any _).mono ?_
    rintro e w1 ⟨rfl, k1⟩
    go_wp2_with fail
    refine Calls.mono (HP.out _) ?_
    rintro e w2 ⟨rfl, k2⟩
    go_wp2_with fail
    refine Calls.mono (HW.out _) ?_
    rintro e w3 ⟨a1, c1, a2, c2, rfl, r1, r2, k3⟩
    go_wp2_with fail
    refine (at_any _ _ _).mono ?_
    rintro e w4 ⟨r, f, rfl, hr, k4⟩
    obtain ⟨rfl, rfl⟩ := HA.out _ _ hr
    obtain ⟨b1, p1, rfl, d1⟩ := (r1.keep k4).one (show n < n + 1 by omega)
    obtain ⟨b2, p2, rfl, d2⟩ := (r2.keep k4).one (show n < n + 1 by omega)
    have d1' : w4.cell? ⟨b1, p1 + n, none⟩ = some (.int .i64 (St n).x) := d1
    have d2' : w4.cell? ⟨b2, p2 + n, none⟩ = some (.int .i64 (St n).y) := d2
    clear d1 d2 r1 r2 hr
    go_wp2_with fail
    go_ret
    exact ⟨rfl, Keeps.trans k1 (Keeps.trans k2 (Keeps.trans k3 k4))⟩

end Go.Proofs.Ytnpmadnihheahaa
