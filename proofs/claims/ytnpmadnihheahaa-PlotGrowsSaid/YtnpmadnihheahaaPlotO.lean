/- Whole floats: least, greatest, less, as integers. -/
import Derived.Test.YtnpmadnihheahaaPlotE
namespace Go.Proofs.Ytnpmadnihheahaa
open Go.RowKit

/-! ### floats -/
def fmnB (a b : Nat) : Nat :=
  match FloatKind.f64.format.order a b with
  | some .lt => a
  | some .gt => b
  | some .eq => if (FloatKind.f64.decode a).neg then a else b
  | none => 0
def fmxB (a b : Nat) : Nat :=
  match FloatKind.f64.format.order a b with
  | some .lt => b
  | some .gt => a
  | some .eq => if (FloatKind.f64.decode a).neg then b else a
  | none => 0
def fmOk (a b r r' : Nat) : Bool := (FloatKind.f64.format.order a b).isSome && fmnB a b == r && fmxB a b == r'
theorem fm_all : allI (fun x => allI (fun y => fmOk (fB x) (fB y) (fB (mn x y)) (fB (mx x y))) (-33) 67) (-33) 67 = true := by decide +kernel
theorem run_fm2 {P : Program} {a b r r' : Nat} (h : fmOk a b r r' = true) (w : World) : (Builtin.min2 (.float .f64 a) (.float .f64 b)).run P w = .ok (.float .f64 r) w ∧ (Builtin.max2 (.float .f64 a) (.float .f64 b)).run P w = .ok (.float .f64 r') w := by
  unfold fmOk fmnB fmxB at h
  rw [Bool.and_eq_true, Bool.and_eq_true] at h
  obtain ⟨⟨h1, h2⟩, h3⟩ := h
  unfold Builtin.min2 Builtin.max2
  cases ho : FloatKind.f64.format.order a b with
  | none => rw [ho] at h1; cases h1
  | some o =>
    rw [ho] at h2 h3
    cases o <;> simp only [beq_iff_eq] at h2 h3 <;> subst h2 <;> subst h3 <;> simp [ho]
theorem zero_float : fB 0 = 0 := by decide +kernel
theorem fsub_all : allI (fun x => allI (fun y => FloatKind.f64.format.sub (fB x) (fB y) == some (fB (x - y))) (-33) 67) (-33) 67 = true := by decide +kernel
theorem toInt2_all : allI (fun x => floatToIntVal .f64 (fB x) .i64 == some x) (-66) 133 = true := by decide +kernel
theorem conv_fi2 (x : Int) (h1 : -66 ≤ x) (h2 : x ≤ 66) (w : World) : (convert 32 3 (.float .f64 (fB x))).run Try.prog w = .ok (.int .i64 x) w :=
  run_convert_float_int w _ _ .f64 .i64 _ _ (by kernel_rfl) (by kernel_rfl) (beq_iff_eq.1 (allI_at 133 (-66) x toInt2_all h1 (by omega)))
theorem fsub (t : TypeId) (x y : Int) (h1 : -33 ≤ x) (h2 : x ≤ 33) (h3 : -33 ≤ y) (h4 : y ≤ 33) (w : World) : (binOp .sub t (.float .f64 (fB x)) (.float .f64 (fB y))).run Try.prog w = .ok (.float .f64 (fB (x - y))) w := by
  have h0 := allI_at 67 (-33) y (allI_at 67 (-33) x fsub_all h1 (by omega)) h3 (by omega)
  have h := beq_iff_eq.1 h0
  clear h0
  generalize fB x = a at *
  generalize fB y = b at *
  generalize fB (x - y) = c at *
  first
    | (simp only [binOp, Op.floatArith, h]; rfl)
    | simp [binOp, Op.floatArith, h]
    | (simp [binOp, Op.floatArith, h]; rfl)
theorem fmin (ts : Array TypeId) (t : TypeId) (x y : Int) (h1 : -33 ≤ x) (h2 : x ≤ 33) (h3 : -33 ≤ y) (h4 : y ≤ 33) (w : World) : (Builtin.min_ ts t #[.float .f64 (fB x), .float .f64 (fB y)]).run Try.prog w = .ok (.float .f64 (fB (mn x y))) w := by
  have h := (run_fm2 (P := Try.prog) (allI_at 67 (-33) y (allI_at 67 (-33) x fm_all h1 (by omega)) h3 (by omega)) w).1
  simp [Builtin.min_, h]
theorem fmax (ts : Array TypeId) (t : TypeId) (x y : Int) (h1 : -33 ≤ x) (h2 : x ≤ 33) (h3 : -33 ≤ y) (h4 : y ≤ 33) (w : World) : (Builtin.max_ ts t #[.float .f64 (fB x), .float .f64 (fB y)]).run Try.prog w = .ok (.float .f64 (fB (mx x y))) w := by
  have h := (run_fm2 (P := Try.prog) (allI_at 67 (-33) y (allI_at 67 (-33) x fm_all h1 (by omega)) h3 (by omega)) w).2
  simp [Builtin.max_, h]


end Go.Proofs.Ytnpmadnihheahaa
