/- More of the spiral in plain Lean: rings; every place of the square is a cell's; turning floats. -/
import Derived.Test.YtnpmadnihheahaaPlotB
namespace Go.Proofs.Ytnpmadnihheahaa

/-- Where the cell n of a ring lies. -/
def posR (r n : Int) : Int × Int :=
  if r = 0 then (0, 0)
  else
    let m := n - (2 * r - 1) * (2 * r - 1)
    if m < 2 * r then (r, m - r + 1)
    else if m < 4 * r then (r - 1 - (m - 2 * r), r)
    else if m < 6 * r then (-r, r - 1 - (m - 4 * r))
    else (m - 6 * r - r + 1, -r)
def inRing (r n : Nat) : Bool := if r = 0 then n == 0 else decide ((2 * r - 1) * (2 * r - 1) ≤ n) && decide (n < (2 * r + 1) * (2 * r + 1))
def okRing (n : Nat) (s : Sp) : Bool := inRing (ring s.x s.y) n && (posR (ring s.x s.y) n == (s.x, s.y)) && decide (ring s.x s.y ≤ 32)
theorem okRings : checkAll okRing 4096 Sp.start 0 = true := by decide +kernel
theorem ring_ok (n : Nat) (h : n < 4096) : inRing (ring (St n).x (St n).y) n = true ∧ posR (ring (St n).x (St n).y) n = ((St n).x, (St n).y) ∧ ring (St n).x (St n).y ≤ 32 := by
  have := checkAll_at 4096 Sp.start 0 okRings rfl n h
  rw [Nat.zero_add] at this
  unfold okRing at this
  simp only [Bool.and_eq_true, beq_iff_eq, decide_eq_true_eq] at this
  exact ⟨this.1.1, this.1.2, this.2⟩
theorem inRing_sq {r n side : Nat} (h : inRing r n = true) : decide (r ≤ side) = decide (n < (2 * side + 1) * (2 * side + 1)) := by
  unfold inRing at h
  by_cases h0 : r = 0
  · rw [if_pos h0] at h
    have hn : n = 0 := by simpa using h
    subst hn
    have : 0 < (2 * side + 1) * (2 * side + 1) := Nat.mul_pos (by omega) (by omega)
    simp [h0, this]
  · rw [if_neg h0] at h
    simp only [Bool.and_eq_true, decide_eq_true_eq] at h
    obtain ⟨h1, h2⟩ := h
    by_cases hs : r ≤ side
    · have : (2 * r + 1) * (2 * r + 1) ≤ (2 * side + 1) * (2 * side + 1) := Nat.mul_le_mul (by omega) (by omega)
      rw [decide_eq_true hs, decide_eq_true (by omega : n < (2 * side + 1) * (2 * side + 1))]
    · have : (2 * side + 1) * (2 * side + 1) ≤ (2 * r - 1) * (2 * r - 1) := Nat.mul_le_mul (by omega) (by omega)
      rw [decide_eq_false hs, decide_eq_false (by omega : ¬ n < (2 * side + 1) * (2 * side + 1))]
theorem inRing_uni {r r' n : Nat} (h : inRing r n = true) (h' : inRing r' n = true) : r = r' := by
  have a := inRing_sq (side := r') h
  have b := inRing_sq (side := r) h
  have a' := inRing_sq (side := r') h'
  have b' := inRing_sq (side := r) h'
  rw [← b'] at b
  rw [← a'] at a
  simp at a b
  omega
def okSq (x y : Int) : Bool := inRing (ring x y) (idx x y).toNat && (posR (ring x y) (idx x y).toNat == (x, y)) && decide (0 ≤ idx x y) && decide (idx x y < 4096)
theorem okSqs : allI (fun x => allI (fun y => okSq x y) (-31) 63) (-31) 63 = true := by decide +kernel
theorem sq_ok (x y : Int) (h1 : -31 ≤ x) (h2 : x ≤ 31) (h3 : -31 ≤ y) (h4 : y ≤ 31) : ∃ n, n < 4096 ∧ (St n).x = x ∧ (St n).y = y := by
  have h := allI_at 63 (-31) y (allI_at 63 (-31) x okSqs h1 (by omega)) h3 (by omega)
  unfold okSq at h
  simp only [Bool.and_eq_true, beq_iff_eq, decide_eq_true_eq] at h
  obtain ⟨⟨⟨h5, h6⟩, h7⟩, h8⟩ := h
  have hn : (idx x y).toNat < 4096 := by omega
  obtain ⟨g1, g2, _⟩ := ring_ok _ hn
  have := inRing_uni h5 g1
  rw [← this, h6] at g2
  simp only [Prod.mk.injEq] at g2
  exact ⟨_, hn, g2.1.symm, g2.2.symm⟩

/-! ### floats -/
theorem nB_nB (b : Nat) : nB (nB b) = b := by
  unfold nB Op.negFloat
  rw [Nat.xor_assoc, Nat.xor_self, Nat.xor_zero]
/-- A float that is a number. -/
def Num (b : Nat) : Prop := b % 2 ^ 63 ≤ 0x7ff0000000000000
theorem Num.neg {b : Nat} (h : Num b) : Num (nB b) := by
  unfold Num nB Op.negFloat at *
  have e : (FloatKind.f64.format.exponentBits + FloatKind.f64.format.fractionBits) = 63 := rfl
  rw [e, Nat.xor_mod_two_pow, Nat.mod_self, Nat.xor_zero]
  exact h
theorem Num.ofInt (n : Int) : Num (fB n) := by
  unfold Num fB FloatKind.nearest FloatKind.encode
  show Ieee.Format.nearest Ieee.double _ _ _ % 2 ^ 63 ≤ _
  have hw : ∀ (s : Bool) (r : Nat), r ≤ 0x7ff0000000000000 → Ieee.double.word s r % 2 ^ 63 ≤ 0x7ff0000000000000 := by
    intro s r hr
    have e : Ieee.double.signWeight = 2 ^ 63 := by decide
    cases s with
    | true =>
      show (Ieee.double.signWeight + r) % 2 ^ 63 ≤ _
      rw [e]
      omega
    | false =>
      show r % 2 ^ 63 ≤ _
      omega
  unfold Ieee.Format.nearest
  split
  · exact hw _ _ (by omega)
  · refine hw _ _ (Nat.le_trans (Nat.min_le_right _ _) ?_)
    decide
theorem Num.ord {b : Nat} (h : Num b) : (FloatKind.f64.format.order b b == some .eq) = true := by
  unfold Num at h
  have e : FloatKind.f64.format = Ieee.double := rfl
  rw [e]
  unfold Ieee.Format.order
  have e1 : Ieee.double.signWeight = 2 ^ 63 := by decide
  have e2 : Ieee.double.infRung = 0x7ff0000000000000 := by decide
  cases hd : Ieee.double.read b with
  | number s m p =>
    simp [Ieee.Datum.order, compare, compareOfLessAndEq]
  | infinity s => cases s <;> decide
  | nan s t =>
    exfalso
    unfold Ieee.Format.read at hd
    rw [e1, e2] at hd
    simp only at hd
    split at hd
    · cases hd
    · split at hd
      · cases hd
      · split at hd
        · cases hd
        · omega
end Go.Proofs.Ytnpmadnihheahaa
