/- The spiral's places as floating-point numbers; no program in sight. -/
import Derived.Test.YtnpmadnihheahaaPlotA
namespace Go.Proofs.Ytnpmadnihheahaa

/-- A whole number as a float. -/
def fB (n : Int) : Nat := FloatKind.f64.nearest n
/-- A float with its sign turned. -/
def nB (b : Nat) : Nat := Op.negFloat .f64 b
/-- A way, turned so often. -/
def wayR (t : Int) : Nat := if t % 4 = 0 then fB 1 else if t % 4 = 1 then nB (fB 0) else if t % 4 = 2 then nB (fB 1) else fB 0
def wayI (t : Int) : Nat := if t % 4 = 0 then fB 0 else if t % 4 = 1 then fB 1 else if t % 4 = 2 then nB (fB 0) else nB (fB 1)

theorem way_turn (t : Int) : nB (wayI t) = wayR (t + 1) ∧ wayR t = wayI (t + 1) := by
  have key : nB (fB 0) = wayR 1 ∧ nB (fB 1) = wayR 2 ∧ nB (nB (fB 0)) = wayR 3 ∧ nB (nB (fB 1)) = wayR 4 := by decide +kernel
  have key2 : fB 1 = wayI 1 ∧ nB (fB 0) = wayI 2 ∧ nB (fB 1) = wayI 3 ∧ fB 0 = wayI 4 := by decide +kernel
  obtain ⟨k1, k2, k3, k4⟩ := key
  obtain ⟨l1, l2, l3, l4⟩ := key2
  unfold wayR wayI at *
  rcases (by omega : t % 4 = 0 ∨ t % 4 = 1 ∨ t % 4 = 2 ∨ t % 4 = 3) with e | e | e | e
  · have e' : (t + 1) % 4 = 1 := by omega
    simp only [e, e'] at *; simp at *
  · have e' : (t + 1) % 4 = 2 := by omega
    simp only [e, e'] at *; simp at *
  · have e' : (t + 1) % 4 = 3 := by omega
    simp only [e, e'] at *; simp at *; exact k3
  · have e' : (t + 1) % 4 = 0 := by omega
    simp only [e, e'] at *; simp at *; exact k4

/-- A test of all whole numbers from a on, so many. -/
def allI (p : Int → Bool) (a : Int) : Nat → Bool
  | 0 => true
  | k + 1 => p a && allI p (a + 1) k
theorem allI_at {p : Int → Bool} : ∀ (k : Nat) (a x : Int), allI p a k = true → a ≤ x → x < a + k → p x = true
  | 0, _, _, _, h1, h2 => by omega
  | k + 1, a, x, h, h1, h2 => by
    unfold allI at h
    rw [Bool.and_eq_true] at h
    by_cases e : x = a
    · subst e; exact h.1
    · exact allI_at k (a + 1) x h.2 (by omega) (by omega)

theorem add_all : allI (fun x => allI (fun t => FloatKind.f64.format.add (fB x) (wayR t) == some (fB (x + wx t)) && FloatKind.f64.format.add (fB x) (wayI t) == some (fB (x + wy t))) 0 4) (-33) 67 = true := by decide +kernel
theorem add_way (x t : Int) (h1 : -33 ≤ x) (h2 : x ≤ 33) :
    FloatKind.f64.format.add (fB x) (wayR t) = some (fB (x + wx t)) ∧ FloatKind.f64.format.add (fB x) (wayI t) = some (fB (x + wy t)) := by
  have h := allI_at 67 (-33) x add_all h1 (by omega)
  have h' := allI_at 4 0 (t % 4) h (by omega) (by omega)
  have e1 : wayR (t % 4) = wayR t := by unfold wayR; rw [Int.emod_emod_of_dvd t (by decide)]
  have e2 : wayI (t % 4) = wayI t := by unfold wayI; rw [Int.emod_emod_of_dvd t (by decide)]
  have e3 : wx (t % 4) = wx t := by unfold wx; rw [Int.emod_emod_of_dvd t (by decide)]
  have e4 : wy (t % 4) = wy t := by unfold wy; rw [Int.emod_emod_of_dvd t (by decide)]
  simp only [e1, e2, e3, e4, Bool.and_eq_true, beq_iff_eq] at h'
  exact h'

/-- Whole numbers are alike as floats only where they are. -/
theorem ord_all : allI (fun x => allI (fun y => (FloatKind.f64.format.order (fB x) (fB y) == some .eq) == decide (x = y)) (-128) 257) (-33) 67 = true := by decide +kernel
theorem ord_eq (x y : Int) (h1 : -33 ≤ x) (h2 : x ≤ 33) (h3 : -128 ≤ y) (h4 : y ≤ 128) : (FloatKind.f64.format.order (fB x) (fB y) == some .eq) = decide (x = y) := by
  have h := allI_at 67 (-33) x ord_all h1 (by omega)
  have h' := allI_at 257 (-128) y h h3 (by omega)
  exact beq_iff_eq.1 h'
end Go.Proofs.Ytnpmadnihheahaa
