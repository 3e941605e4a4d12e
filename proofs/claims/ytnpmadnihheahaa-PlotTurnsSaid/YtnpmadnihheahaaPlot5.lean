/- The law PlotTurns. -/
import Derived.Test.YtnpmadnihheahaaPlot4
import Derived.Test.YtnpmadnihheahaaPlotC
namespace Go.Proofs.Ytnpmadnihheahaa
open Go.RowKit

theorem rot4 (a b : Nat) : rotN 4 a b = (a, b) := by
  show (nB (nB a), nB (nB b)) = _
  rw [nB_nB, nB_nB]
theorem rot_add : ∀ (k m a b : Nat), rotN m (rotN k a b).1 (rotN k a b).2 = rotN (k + m) a b
  | 0, m, a, b => by rw [Nat.zero_add]; rfl
  | k + 1, m, a, b => by
    show rotN m (rotN k (nB b) a).1 (rotN k (nB b) a).2 = _
    rw [rot_add k m, show k + 1 + m = (k + m) + 1 by omega]
    rfl
theorem rot_num {a b : Nat} (ha : Num a) (hb : Num b) : ∀ k, Num (rotN k a b).1 ∧ Num (rotN k a b).2
  | 0 => ⟨ha, hb⟩
  | k + 1 => by rw [rotN_succ]; exact ⟨(rot_num ha hb k).2.neg, (rot_num ha hb k).1⟩
theorem rot_back (t : Int) (a b : Nat) : rotN ((-t) % 4).toNat (rotN (t % 4).toNat a b).1 (rotN (t % 4).toNat a b).2 = (a, b) := by
  rw [rot_add]
  rcases (by omega : t % 4 = 0 ∨ t % 4 = 1 ∨ t % 4 = 2 ∨ t % 4 = 3) with e | e | e | e
  · have e' : (-t) % 4 = 0 := by omega
    rw [e, e']; rfl
  · have e' : (-t) % 4 = 3 := by omega
    rw [e, e']; exact rot4 a b
  · have e' : (-t) % 4 = 2 := by omega
    rw [e, e']; exact rot4 a b
  · have e' : (-t) % 4 = 1 := by omega
    rw [e, e']; exact rot4 a b

@[local go_sem] theorem unary_neg_float5 (b : Nat) : Op.unary .neg (.float .f64 b) = pure (.float .f64 (nB b)) := rfl

set_option maxRecDepth 100000 in
set_option maxHeartbeats 2000000 in
theorem turns_walk (x y t : Int) (w : World) (ht1 : -32768 ≤ t) (ht2 : t ≤ 32767) :
    Calls Try.prog 6 #[.int .i32 x, .int .i32 y, .int .i16 t] w fun e w' => e = .returned (.bool true) ∧ Keeps w w' := by
  obtain ⟨m0, m1, m2⟩ := tmod4 t
  obtain ⟨r, hr, hr'⟩ : ∃ r : Nat, r < 4 ∧ t % 4 = (r : Int) := ⟨(t % 4).toNat, by omega, by omega⟩
  have hq1 : (t.tmod 4 + 4) % 4 ≤ (r : Int) := by omega
  have hq2 : (r : Int) ≤ (t.tmod 4 + 4) % 4 := by omega
  have hT := turn_any (floatOfInt .f64 x) (floatOfInt .f64 y) t
  rw [hr', Int.toNat_natCast] at hT
  have hT4 : ∀ w, Calls Try.prog 15 #[.complex .f64 (floatOfInt .f64 x) (floatOfInt .f64 y), .int .i64 4] w fun e w' => e = .returned (.complex .f64 (floatOfInt .f64 x) (floatOfInt .f64 y)) ∧ w = w' := fun w =>
    (turn_any _ _ 4 w).mono fun e w' ⟨he, hw⟩ => ⟨he, hw⟩
  have hT0 : ∀ w, Calls Try.prog 15 #[.complex .f64 (floatOfInt .f64 x) (floatOfInt .f64 y), .int .i64 0] w fun e w' => e = .returned (.complex .f64 (floatOfInt .f64 x) (floatOfInt .f64 y)) ∧ w = w' := fun w =>
    (turn_any _ _ 0 w).mono fun e w' ⟨he, hw⟩ => ⟨he, hw⟩
  have hB := turn_any (rotN r (floatOfInt .f64 x) (floatOfInt .f64 y)).1 (rotN r (floatOfInt .f64 x) (floatOfInt .f64 y)).2 (-t)
  have hb := rot_back t (floatOfInt .f64 x) (floatOfInt .f64 y)
  rw [hr', Int.toNat_natCast] at hb
  rw [hb] at hB
  have HT := Lib.hid hT
  have HT4 := Lib.hid hT4
  have HT0 := Lib.hid hT0
  have HB := Lib.hid hB
  have nx : Num (floatOfInt .f64 x) := Num.ofInt x
  have ny : Num (floatOfInt .f64 y) := Num.ofInt y
  have o1 := nx.ord
  have o2 := ny.ord
  have o3 := (rot_num nx ny r).1.ord
  have o4 := (rot_num nx ny r).2.ord
  clear m0 hr' hT hT4 hT0 hB hb nx ny
  go_enter Try.func6, Try.ntmps6
  go_wp2_with fail
  refine (awake_any _).mono ?_
  rintro e w1 ⟨rfl, k1⟩
  go_wp2_with fail
  go_loop [8, 24] (fun z i => ∃ k : Nat, k ≤ r ∧ i = .int .i64 k ∧ z = .complex .f64 (rotN k (floatOfInt .f64 x) (floatOfInt .f64 y)).1 (rotN k (floatOfInt .f64 x) (floatOfInt .f64 y)).2) (fun _ i => r - (intOf i).toNat)
  case atStart => exact ⟨0, Nat.zero_le _, rfl, rfl⟩
  case round =>
    obtain ⟨k, hk, rfl, rfl⟩ := hrel
    have HR := Lib.hid (rotN_succ k (floatOfInt .f64 x) (floatOfInt .f64 y))
    by_cases hlt : k < r
    · go_wp2_with fail
      go_round
      case rel => exact ⟨k + 1, by omega, by go_num, by rw [HR.out]⟩
      case measure => simp [intOf]; omega
    · obtain rfl : r = k := by omega
      go_wp2_with fail
      refine Calls.mono (HT.out _) ?_
      rintro e w2 ⟨rfl, rfl⟩
      go_wp2_with fail
      refine Calls.mono (HT4.out _) ?_
      rintro e w2 ⟨rfl, rfl⟩
      go_wp2_with fail
      refine Calls.mono (HT.out _) ?_
      rintro e w2 ⟨rfl, rfl⟩
      go_wp2_with fail
      refine Calls.mono (HB.out _) ?_
      rintro e w2 ⟨rfl, rfl⟩
      go_wp2_with fail
      refine Calls.mono (HT0.out _) ?_
      rintro e w2 ⟨rfl, rfl⟩
      go_wp2_with fail
      go_ret
      exact ⟨rfl, k1⟩
end Go.Proofs.Ytnpmadnihheahaa
