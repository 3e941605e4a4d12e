/- The law PlotSteps. -/
import Derived.Test.YtnpmadnihheahaaPlot4
import Derived.Test.YtnpmadnihheahaaPlotC
import Derived.Laws.FloatArith
namespace Go.Proofs.Ytnpmadnihheahaa
open Go.RowKit

def mxB (a b : Nat) : Nat :=
  match FloatKind.f64.format.order a b with
  | some .lt => b
  | some .gt => a
  | some .eq => if (FloatKind.f64.decode a).neg then b else a
  | none => 0
def mxOk (a b r : Nat) : Bool := (FloatKind.f64.format.order a b).isSome && mxB a b == r
theorem run_max2 {P : Program} {a b r : Nat} (h : mxOk a b r = true) (w : World) : (Builtin.max2 (.float .f64 a) (.float .f64 b)).run P w = .ok (.float .f64 r) w := by
  unfold mxOk mxB at h
  rw [Bool.and_eq_true] at h
  obtain ⟨h1, h2⟩ := h
  unfold Builtin.max2
  cases ho : FloatKind.f64.format.order a b with
  | none => rw [ho] at h1; cases h1
  | some o =>
    rw [ho] at h2
    cases o <;> simp only [beq_iff_eq] at h2 <;> subst h2 <;> simp [ho]
theorem run_max4 {P : Program} (ts : Array TypeId) (t : TypeId) {a b c d r1 r2 r3 : Nat} (h1 : mxOk a b r1 = true) (h2 : mxOk r1 c r2 = true) (h3 : mxOk r2 d r3 = true) (w : World) :
    (Builtin.max_ ts t #[.float .f64 a, .float .f64 b, .float .f64 c, .float .f64 d]).run P w = .ok (.float .f64 r3) w := by
  have e1 := run_max2 (P := P) h1
  have e2 := run_max2 (P := P) h2
  have e3 := run_max2 (P := P) h3
  simp [Builtin.max_, e1, e2, e3]

theorem mx1_all : allI (fun x => mxOk (fB x) (nB (fB x)) (fB x.natAbs)) (-33) 67 = true := by decide +kernel
theorem mx2_all : allI (fun a => allI (fun y => mxOk (fB a) (fB y) (fB (max a y)) && mxOk (fB a) (nB (fB y)) (fB (max a (-y)))) (-33) 67) 0 34 = true := by decide +kernel
theorem sub_all : allI (fun x => allI (fun d => FloatKind.f64.format.sub (fB (x + d)) (fB x) == some (fB d)) (-1) 3) (-33) 67 = true := by decide +kernel
theorem mul_all : allI (fun d => FloatKind.f64.format.mul (fB d) (fB d) == some (fB (d * d))) (-1) 3 = true := by decide +kernel
theorem leq_all : allI (fun r => allI (fun s => ((FloatKind.f64.format.order (fB r) (fB s) == some .lt) || (FloatKind.f64.format.order (fB r) (fB s) == some .eq)) == decide (r ≤ s)) 0 32) 0 34 = true := by decide +kernel

theorem far_max {P : Program} (ts : Array TypeId) (t : TypeId) (x y : Int) (hx1 : -33 ≤ x) (hx2 : x ≤ 33) (hy1 : -33 ≤ y) (hy2 : y ≤ 33) (w : World) :
    (Builtin.max_ ts t #[.float .f64 (fB x), .float .f64 (nB (fB x)), .float .f64 (fB y), .float .f64 (nB (fB y))]).run P w = .ok (.float .f64 (fB (ring x y : Int))) w := by
  have h1 := allI_at 67 (-33) x mx1_all hx1 (by omega)
  have h2 := allI_at 67 (-33) y (allI_at 34 0 (x.natAbs : Int) mx2_all (by omega) (by omega)) hy1 (by omega)
  have h3 := allI_at 67 (-33) y (allI_at 34 0 (max (x.natAbs : Int) y) mx2_all (by omega) (by omega)) hy1 (by omega)
  rw [Bool.and_eq_true] at h2 h3
  have e : max (max (x.natAbs : Int) y) (-y) = (ring x y : Int) := by unfold ring; omega
  have h3' := h3.2
  rw [e] at h3'
  exact run_max4 ts t h1 h2.1 h3' w
theorem sub_z {P : Program} (t : TypeId) (x y dx dy : Int) (hx1 : -33 ≤ x) (hx2 : x ≤ 33) (hy1 : -33 ≤ y) (hy2 : y ≤ 33) (h1 : -1 ≤ dx) (h2 : dx ≤ 1) (h3 : -1 ≤ dy) (h4 : dy ≤ 1) (w : World) :
    (binOp .sub t (.complex .f64 (fB (x + dx)) (fB (y + dy))) (.complex .f64 (fB x) (fB y))).run P w = .ok (.complex .f64 (fB dx) (fB dy)) w := by
  have e0 := allI_at 3 (-1) dx (allI_at 67 (-33) x sub_all hx1 (by omega)) h1 (by omega)
  have e1 := beq_iff_eq.1 e0
  have e00 := allI_at 3 (-1) dy (allI_at 67 (-33) y sub_all hy1 (by omega)) h3 (by omega)
  have e2 := beq_iff_eq.1 e00
  clear e0 e00
  generalize fB (x + dx) = a at *
  generalize fB (y + dy) = b at *
  generalize fB x = c at *
  generalize fB y = d at *
  generalize fB dx = e at *
  generalize fB dy = f at *
  simp only [binOp, Op.complexOp, Op.Complex.arith, Op.floatArith, e1, e2]
  rfl
theorem mul_d {P : Program} (t : TypeId) (d : Int) (h1 : -1 ≤ d) (h2 : d ≤ 1) (w : World) : (binOp .mul t (.float .f64 (fB d)) (.float .f64 (fB d))).run P w = .ok (.float .f64 (fB (d * d))) w := by
  have e0 := allI_at 3 (-1) d mul_all h1 (by omega)
  have e1 := beq_iff_eq.1 e0
  clear e0
  generalize fB d = a at *
  generalize fB (d * d) = b at *
  simp only [binOp, Op.floatArith, e1]
  rfl
theorem add_one {P : Program} (t : TypeId) (T : Int) (w : World) : (binOp .add t (.float .f64 (fB (wx T * wx T))) (.float .f64 (fB (wy T * wy T)))).run P w = .ok (.float .f64 4607182418800017408) w := by
  have k1 : FloatKind.f64.format.add (fB 1) (fB 0) = some 4607182418800017408 := by decide +kernel
  have k2 : FloatKind.f64.format.add (fB 0) (fB 1) = some 4607182418800017408 := by decide +kernel
  have key : FloatKind.f64.format.add (fB (wx T * wx T)) (fB (wy T * wy T)) = some 4607182418800017408 := by
    unfold wx wy
    rcases (by omega : T % 4 = 0 ∨ T % 4 = 1 ∨ T % 4 = 2 ∨ T % 4 = 3) with e | e | e | e
    · simp only [e]; exact k1
    · simp only [e]; exact k2
    · simp only [e]; exact k1
    · simp only [e]; exact k2
  generalize fB (wx T * wx T) = a at *
  generalize fB (wy T * wy T) = b at *
  simp only [binOp, Op.floatArith, key]
  rfl

@[local go_sem] theorem unary_neg_float7 (b : Nat) : Op.unary .neg (.float .f64 b) = pure (.float .f64 (nB b)) := rfl

set_option maxRecDepth 100000 in
set_option maxHeartbeats 4000000 in
theorem steps_walk (n k : Int) (w : World) (hn1 : 0 ≤ n) (hn2 : n ≤ 65535) (hk1 : 0 ≤ k) (hk2 : k ≤ 255) :
    Calls Try.prog 5 #[.int .u16 n, .int .u8 k] w fun e w' => e = .returned (.bool true) ∧ Keeps w w' := by
  obtain ⟨i, hi, hi'⟩ : ∃ i : Nat, i < 4095 ∧ n % 4095 = (i : Int) := ⟨(n % 4095).toNat, by omega, by omega⟩
  obtain ⟨s, hs, hs'⟩ : ∃ s : Nat, s < 32 ∧ k % 32 = (s : Int) := ⟨(k % 32).toNat, by omega, by omega⟩
  have q := sp i (by omega)
  have hstep : (St (i + 1)).x = (St i).x + wx (St i).turns ∧ (St (i + 1)).y = (St i).y + wy (St i).turns := by
    show (St i).next.x = _ ∧ (St i).next.y = _
    unfold Sp.next
    split <;> exact ⟨rfl, rfl⟩
  obtain ⟨b1, b2, b3, b4⟩ := wx_bd (St i).turns
  obtain ⟨g1, _, g3⟩ := ring_ok i (by omega)
  have hsub := sub_z (P := Try.prog) 23 (St i).x (St i).y (wx (St i).turns) (wy (St i).turns) (by have := q.x1; omega) (by have := q.x2; omega) (by have := q.y1; omega) (by have := q.y2; omega) b1 b2 b3 b4
  have hmx := mul_d (P := Try.prog) 32 (wx (St i).turns) b1 b2
  have hmy := mul_d (P := Try.prog) 32 (wy (St i).turns) b3 b4
  have hadd := add_one (P := Try.prog) 32 (St i).turns
  have hmax := fun ts t => far_max (P := Try.prog) ts t (St i).x (St i).y (by have := q.x1; omega) (by have := q.x2; omega) (by have := q.y1; omega) (by have := q.y2; omega)
  have o1 : (FloatKind.f64.format.order 4607182418800017408 4607182418800017408 != some .eq) = false := by decide +kernel
  have hleq0 := allI_at 32 0 (s : Int) (allI_at 34 0 (ring (St i).x (St i).y : Int) leq_all (by omega) (by omega)) (by omega) (by omega)
  have hleq := beq_iff_eq.1 hleq0
  have hsq := inRing_sq (side := s) g1
  have hP := fun w => place_any (i : Int) w (by omega) (by omega)
  rw [Int.toNat_natCast] at hP
  have hP2 := fun w => place_any ((i : Int) + 1) w (by omega) (by omega)
  rw [show ((i : Int) + 1).toNat = i + 1 by omega, hstep.1, hstep.2] at hP2
  have HP := Lib.hid hP
  have HP2 := Lib.hid hP2
  have HL := Lib.hid hleq
  have HQ := Lib.hid hsq
  clear hP hP2 q hstep g1 g3 hleq hleq0 hsq
  go_enter Try.func5, Try.ntmps5
  go_wp2_with fail
  refine (awake_any _).mono ?_
  rintro e w1 ⟨rfl, k1⟩
  go_wp2_with fail
  refine Calls.mono (HP.out _) ?_
  rintro e w2 ⟨rfl, k2⟩
  go_wp2_with fail
  refine Calls.mono (HP2.out _) ?_
  rintro e w3 ⟨rfl, k3⟩
  go_wp2_with fail
  refine Calls.mono (HP.out _) ?_
  rintro e w4 ⟨rfl, k4⟩
  go_wp2_with fail
  go_ret
  have hM : (2 * s + 1) * (2 * s + 1) ≤ 63 * 63 := Nat.mul_le_mul (by omega) (by omega)
  have hc : ((2 * (s : Int) + 1) * (2 * (s : Int) + 1)) = (((2 * s + 1) * (2 * s + 1) : Nat) : Int) := by simp
  have hw : wrap64 ((2 * (s : Int) + 1) * (2 * (s : Int) + 1)) = (((2 * s + 1) * (2 * s + 1) : Nat) : Int) := by
    rw [hc]
    generalize (2 * s + 1) * (2 * s + 1) = M at hM
    unfold wrap64
    omega
  have h1 := HL.out
  have h2 := HQ.out
  have key : ((FloatKind.f64.format.order (fB (ring (St i).x (St i).y : Int)) (floatOfInt .f64 (s : Int)) == some .lt || FloatKind.f64.format.order (fB (ring (St i).x (St i).y : Int)) (floatOfInt .f64 (s : Int)) == some .eq) == decide ((i : Int) < wrap64 ((2 * (s : Int) + 1) * (2 * (s : Int) + 1)))) = true := by
    rw [hw, beq_iff_eq]
    refine h1.trans ?_
    have e1 : decide ((ring (St i).x (St i).y : Int) ≤ (s : Int)) = decide (ring (St i).x (St i).y ≤ s) := decide_eq_decide.2 Int.ofNat_le
    have e2 : decide ((i : Int) < (((2 * s + 1) * (2 * s + 1) : Nat) : Int)) = decide (i < (2 * s + 1) * (2 * s + 1)) := decide_eq_decide.2 Int.ofNat_lt
    rw [e1, e2, h2]
  exact ⟨congrArg (fun b => Ending.returned (.bool b)) key, Keeps.trans k1 (Keeps.trans k2 (Keeps.trans k3 k4))⟩
end Go.Proofs.Ytnpmadnihheahaa
