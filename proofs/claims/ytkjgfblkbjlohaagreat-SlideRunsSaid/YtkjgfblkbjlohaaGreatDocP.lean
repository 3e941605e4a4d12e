/- Layer 16, plain: the document's run: all words are adjusted, then moved; where things lie behind it the words are those of the program's. -/
import Derived.Test.YtkjgfblkbjlohaaGreatAllP
set_option linter.all false

namespace Go.Proofs.YtkjgfblkbjlohaaGreat
open Go.RowKit

/-- Adjusted, one behind the other, where they stand. -/
def wasG (f : Nat → Int) (adj : Nat → (Nat → Int) → Nat → Int) : Nat → Nat → Int
  | 0 => f
  | k + 1 => adj k (wasG f adj k)
/-- Words that are copied. -/
def copyF (g src : Nat → Int) (dst s k : Int) : Nat → Int := fun j => if dst ≤ j ∧ (j : Int) < dst + k then src (s + (j - dst)).toNat else g j
theorem copyF_zero (g src : Nat → Int) (dst s : Int) : copyF g src dst s 0 = g := by
  funext j; unfold copyF; rw [if_neg (by omega)]
theorem copyF_succ {g src : Nat → Int} {dst s : Int} (h : 0 ≤ dst) (k : Nat) : putF (copyF g src dst s k) (dst + k).toNat (src (s + k).toNat) = copyF g src dst s (k + 1 : Nat) := by
  funext j
  by_cases e : j = (dst + k).toNat
  · subst e
    rw [putF_self]
    unfold copyF
    rw [if_pos (by omega)]
    congr 1
    omega
  · rw [putF_ne e]
    unfold copyF
    by_cases h2 : dst ≤ j ∧ (j : Int) < dst + k
    · rw [if_pos h2, if_pos (by omega)]
    · rw [if_neg h2, if_neg (by omega)]
def finF (f src : Nat → Int) (P S Z : Nat → Int) : Nat → Nat → Int
  | 0 => f
  | i + 1 => copyF (finF f src P S Z i) src (P i) (S i) (Z i)
section
variable {m : Nat} {s P Z : Nat → Int} {adj : Nat → (Nat → Int) → Nat → Int} {f : Nat → Int}
theorem Down.ssep (h : Down m s P Z adj) : ∀ d q, q + 1 + d < m → s q + Z q ≤ s (q + 1 + d)
  | 0, q, hq => h.snext q hq
  | d + 1, q, hq => by
    have h1 := h.ssep d q (by omega)
    have h2 := h.snext (q + 1 + d) (by omega)
    have h3 := h.big (q + 1 + d) (by omega)
    rw [show q + 1 + (d + 1) = q + 1 + d + 1 by omega]
    omega
theorem Down.slt (h : Down m s P Z adj) {q i : Nat} (hq : q < i) (hi : i < m) : s q + Z q ≤ s i := by
  obtain ⟨d, rfl⟩ : ∃ d, i = q + 1 + d := ⟨i - (q + 1), by omega⟩
  exact h.ssep d q hi
/-- What is not adjusted yet is as it was. -/
theorem Down.was0 (h : Down m s P Z adj) : ∀ k, k ≤ m → ∀ i, k ≤ i → i < m → ∀ j : Nat, s i ≤ j → (j : Int) < s i + Z i → wasG f adj k j = f j
  | 0, _, _, _, _, _, _, _ => rfl
  | k + 1, hk, i, hi, him, j, j0, j1 => by
    have := h.slt (q := k) (i := i) (by omega) him
    show adj k (wasG f adj k) j = f j
    rw [h.out k (by omega) _ _ (by omega)]
    exact h.was0 k (by omega) i (by omega) him j j0 j1
/-- .. and what is, stays so. -/
theorem Down.was1 (h : Down m s P Z adj) : ∀ k, k ≤ m → ∀ i, i < k → ∀ j : Nat, s i ≤ j → (j : Int) < s i + Z i → wasG f adj k j = adj i f j
  | 0, _, i, hi, _, _, _ => by omega
  | k + 1, hk, i, hi, j, j0, j1 => by
    show adj k (wasG f adj k) j = adj i f j
    rcases (by omega : i = k ∨ i < k) with rfl | hlt
    · exact h.loc i (by omega) _ _ (fun j' a b => h.was0 i (by omega) i (Nat.le_refl _) (by omega) j' a b) j j0 j1
    · have := h.slt hlt (by omega)
      rw [h.out k (by omega) _ _ (by omega)]
      exact h.was1 k (by omega) i hlt j j0 j1
theorem Down.fin1 (h : Down m s P Z adj) (src : Nat → Int) : ∀ k, k ≤ m → ∀ i, i < k → ∀ t : Int, 0 ≤ t → t < Z i → finF f src P s Z k (P i + t).toNat = src (s i + t).toNat
  | 0, _, i, hi, _, _, _ => by omega
  | k + 1, hk, i, hi, t, t0, t1 => by
    have hp := h.p0 i (by omega)
    show copyF (finF f src P s Z k) src (P k) (s k) (Z k) _ = _
    rcases (by omega : i = k ∨ i < k) with rfl | hlt
    · unfold copyF
      rw [if_pos (by omega)]
      congr 1
      omega
    · have := h.psep hlt (by omega)
      unfold copyF
      rw [if_neg (by omega)]
      exact h.fin1 src k (by omega) i hlt t t0 t1
/-- The words are the same, where things lie. -/
theorem Down.fin (h : Down m s P Z adj) {i : Nat} (hi : i < m) {t : Int} (t0 : 0 ≤ t) (t1 : t < Z i) : finF f (wasG f adj m) P s Z m (P i + t).toNat = downF f s P Z adj m (P i + t).toNat := by
  have h1 := h.le i hi
  have h2 := h.p0 i hi
  rw [h.fin1 _ m (Nat.le_refl _) i hi t t0 t1, h.dst m (Nat.le_refl _) i hi t t0 t1]
  exact h.was1 m (Nat.le_refl _) i hi _ (by omega) (by omega)
end
section
variable {n m : Nat} {f : Nat → Int} {C : Nat → Cl} {L : Nat → Sp} {G : Nat → List Int} {ats stay : List Int}
/-- Each word that is taken behind a run lies in what went there. -/
theorem slid_cover (hC : ∀ j, j < m → (C j).ok) (hI : LInv n m f C L G ats) (hn : 451 ≤ n) (hS : Stays n m f C ats stay) : ∀ j, j < 3 → ∀ p : Int, (L j).f ≤ p → p < (slidNow n m f C L stay j).t → ∃ i, i < stay.length ∧ slidAt n m f C L stay i ≤ p ∧ p < slidAt n m f C L stay i + slidZ n m f C stay i := by
  have hW := hS.well hC hI hn
  have hkey : ∀ k, k ≤ stay.length → ∀ j, j < 3 → ∀ p : Int, (L j).f ≤ p → p < ((sts L 3 (slidZ n m f C stay) k).now j).t → ∃ i, i < k ∧ slidAt n m f C L stay i ≤ p ∧ p < slidAt n m f C L stay i + slidZ n m f C stay i := by
    intro k
    induction k with
    | zero =>
      intro _ j _ p h1 h2
      have : ((sts L 3 (slidZ n m f C stay) 0).now j).t = (L j).f := rfl
      omega
    | succ k ih =>
      intro hk j hj p h1 h2
      rw [sts_t] at h2
      by_cases e : j = pos L 3 (slidZ n m f C stay) k
      · rw [if_pos e] at h2
        have hat : slidAt n m f C L stay k = ((sts L 3 (slidZ n m f C stay) k).now j).t := by
          rw [e]; exact sts_outv stay.length k (by omega)
        by_cases h3 : p < ((sts L 3 (slidZ n m f C stay) k).now j).t
        · obtain ⟨i, hi, q⟩ := ih (by omega) j hj p h1 h3
          exact ⟨i, by omega, q⟩
        · exact ⟨k, by omega, by omega, by omega⟩
      · rw [if_neg e] at h2
        obtain ⟨i, hi, q⟩ := ih (by omega) j hj p h1 h2
        exact ⟨i, by omega, q⟩
  exact hkey stay.length (Nat.le_refl _)
/-- What the document's memory is behind its run. -/
def docF (n m : Nat) (f : Nat → Int) (C : Nat → Cl) (L : Nat → Sp) (stay : List Int) : Nat → Int :=
  finF f (wasG f (adjOf (atT n f m C) (toM (atT n f m C) L 3 (gt0 stay) stay.length) (gt0 stay)) stay.length) (slidAt n m f C L stay) (gt0 stay) (slidZ n m f C stay) stay.length
theorem doc_same (hC : ∀ j, j < m → (C j).ok) (hI : LInv n m f C L G ats) (hn : 451 ≤ n) (hS : Stays n m f C ats stay) : ∀ j, j < 3 → ∀ p : Nat, (L j).f ≤ p → (p : Int) < (slidNow n m f C L stay j).t → docF n m f C L stay p = slidF n m f C L stay p := fun j hj p h1 h2 => by
  obtain ⟨i, hi, q1, q2⟩ := slid_cover hC hI hn hS j hj p h1 h2
  have hD := hS.down hC hI hn
  have := hD.fin (f := f) hi (t := p - slidAt n m f C L stay i) (by omega) (by unfold slidZ at q2; omega)
  rw [show ((dP (atT n f m C) L 3 (gt0 stay) stay.length i + ((p : Int) - slidAt n m f C L stay i))).toNat = p by unfold slidAt; omega] at this
  exact this
end

end Go.Proofs.YtkjgfblkbjlohaaGreat
