/- Layer 16, plain: what can't be slid. -/
import Derived.Test.YtkjgfblkbjlohaaG41
import Derived.Test.YtkjgfblkbjlohaaHeadsP
set_option linter.all false

namespace Go.Proofs.Ytkjgfblkbjlohaa
open Go.RowKit

theorem gt0_app {l : List Int} {x : Int} : (∀ i, i < l.length → gt0 (l ++ [x]) i = gt0 l i) ∧ gt0 (l ++ [x]) l.length = x := by
  refine ⟨fun i hi => ?_, ?_⟩
  · unfold gt0
    rw [List.getD_eq_getElem?_getD, List.getD_eq_getElem?_getD, List.getElem?_append_left hi]
  · unfold gt0
    rw [List.getD_eq_getElem?_getD, List.getElem?_append_right (Nat.le_refl _), Nat.sub_self]
    rfl
/-- A walk that comes to what is spoilt. -/
theorem Tiles.split {n m : Nat} {f : Nat → Int} {C : Nat → Cl} (hC : ∀ j, j < m → (C j).ok) {a z : Int} {X : List Int} (h : Tiles (atT n f m C) a z X) {b : Int} (hb : b ∈ X) : ∃ Y, Tiles (atT n f m C) a b Y ∧ b < z := by
  induction h with
  | nil a => cases hb
  | cons k1 k2 k3 ih =>
    rename_i a z L
    by_cases e : a = b
    · subst e
      have := k3.le
      exact ⟨[], .nil _, by omega⟩
    · have hbL : b ∈ L := by
        cases hi : (atT n f m C a).1.is with
        | false => rw [hi, if_neg (by decide)] at hb; exact hb
        | true =>
          rw [hi, if_pos rfl] at hb
          rcases List.mem_cons.1 hb with hb | hb
          · exact absurd hb.symm e
          · exact hb
      obtain ⟨Y, h1, h2⟩ := ih hbL
      exact ⟨_, .cons k1 k2 h1, h2⟩
theorem Tiles.bad {T : Int → Th × Int} {a p z : Int} {L : List Int} (h : Tiles T a p L) (h1 : (T p).2 ≠ 0) (h2 : p < z) : WalkR T z a [] (T p).2 := by
  induction h with
  | nil => exact .err h2 h1
  | cons k1 k2 k3 ih =>
    have hle := k3.le
    have := WalkR.step (by omega) k1 (by omega) (ih h1 h2)
    rw [if_neg h1] at this
    exact this
theorem raw_neg {W : Int} (h : W < 0) : ¬ (rawH W).ok := fun hk => by
  have := hk.2.2.1.1
  unfold rawH at this
  dsimp only at this
  omega
section
variable {m : Nat} {f : Nat → Int} {C : Nat → Cl} {L : Nat → Sp} {G : Nat → List Int} {ats stay : List Int}
variable (hC : ∀ j, j < m → (C j).ok) (hI : LInv 500 m f C L G ats) (hS : Stays 500 m f C ats stay)
include hC hI hS
/-- Told twice. -/
theorem ref_twice (hn : 0 < stay.length) : ¬ RunPre L 3 500 (gt0 (stay ++ [gt0 stay (stay.length - 1)])) (stay.length + 1) := fun h => by
  have h1 := h.stay (stay.length - 1) (by omega)
  rw [show stay.length - 1 + 1 = stay.length by omega, gt0_app.2, gt0_app.1 _ (by omega)] at h1
  omega
theorem ref_far (rr : Nat) (Rt : Nat → Int) : RunPre L 3 500 (gt0 (stay ++ [499])) (stay.length + 1) ∧ ¬ RunGood 500 m f C L 3 (gt0 (stay ++ [499])) (stay.length + 1) Rt rr := by
  have hP := hS.pre hC hI (by omega)
  refine ⟨⟨hP.rise, hP.ends, fun i hi => ?_⟩, fun h => ?_⟩
  · rcases (by omega : i + 1 < stay.length ∨ i + 1 = stay.length) with h1 | h1
    · rw [gt0_app.1 _ h1, gt0_app.1 _ (by omega)]; exact hP.stay i h1
    · rw [h1, gt0_app.2, gt0_app.1 _ (by omega)]
      have := hS.bd hC hI (i := i) (by omega)
      omega
  · obtain ⟨G', X, hW, hX⟩ := h.walked
    have h1 := hX stay.length (by omega)
    rw [gt0_app.2, hW.one hI.walked, decide_eq_true_eq] at h1
    have := hI.len hC h1
    omega
theorem ref_inside {k : Nat} (hk : k < stay.length) {i : Nat} (hi : i < stay.length) : gt0 stay k + 1 ≠ gt0 stay i := fun e => by
  obtain ⟨h, r, d, z, e1, hc, _, r0, d0, hz, g1, g2⟩ := hS.obj hC hI (by omega) hk
  have hlt : gt0 stay k < gt0 stay i := by omega
  have := hI.sep hC (hS.inn _ (gt0_mem hi)) (hS.inn _ (gt0_mem hk)) (show gt0 stay k ≠ gt0 stay i by omega)
  rw [e1] at this
  obtain ⟨h', r', d', z', e2, _, _, r0', d0', hz', _, _⟩ := hS.obj hC hI (by omega) hi
  rw [e2] at this
  dsimp only at this
  omega
theorem ref_root {k : Nat} (hk : k < stay.length) (roots : List Int) : ¬ RunGood 500 m f C L 3 (gt0 stay) stay.length (gt0 (roots ++ [gt0 stay k + 1])) (roots.length + 1) := fun h => by
  have h1 := h.roots roots.length (by omega)
  rw [gt0_app.2] at h1
  have hb := hS.bd hC hI hk
  exact h1 (planM_none _ _ _ (by omega) _ (fun i hi => ref_inside hC hI hS hk hi))
theorem ref_spoilt {k : Nat} (hk : k < stay.length) {v : Int} (hv : v < 0) (rr : Nat) (Rt : Nat → Int) : ¬ RunGood 500 m (putF f (gt0 stay k).toNat v) C L 3 (gt0 stay) stay.length Rt rr := fun h => by
  obtain ⟨G', X, hW, hX⟩ := h.walked
  obtain ⟨j, hj, hm, b1, b2, b3, b4, b5, b6⟩ := hI.in_ hC (hS.inn _ (gt0_mem hk))
  obtain ⟨Y, hT, hlt⟩ := (hI.tile j hj).split hC hm
  have hT' : Tiles (atT 500 (putF f (gt0 stay k).toNat v) m C) (L j).f (gt0 stay k) Y := hT.congr hC (fun i i1 i2 => putF_ne (by omega))
  have hne : (atT 500 (putF f (gt0 stay k).toNat v) m C (gt0 stay k)).2 ≠ 0 := fun h0 => by
    have := (at_cases h0).2.1
    rw [putF_self] at this
    exact raw_neg hv this
  exact hne ((hW.walk j hj).same (hT'.bad hne hlt)).2.symm
theorem ref_low (sm : Nat) (S : Nat → Int) : ¬ RunPre (setS L 0 ⟨0, 0, (L 0).e⟩) 3 500 S sm := fun h => by
  have := (h.rise 0 (by omega)).2
  have e : (setS L 0 ⟨0, 0, (L 0).e⟩ 0).f = 0 := rfl
  rw [e] at this
  have e2 : endAt (setS L 0 ⟨0, 0, (L 0).e⟩) 0 = 1 := rfl
  omega
theorem ref_lost {k : Nat} (hk : k < stay.length) {q : Int} (q0 : 0 ≤ q) (q1 : q < (objP (atT 500 f m C (gt0 stay k))).1.refs) (rr : Nat) (Rt : Nat → Int) : ¬ RunGood 500 m (putF f (refAt (gt0 stay k) q).toNat 499) C L 3 (gt0 stay) stay.length Rt rr := fun h => by
  have hb := hS.bd hC hI hk
  have hc : (refAt (gt0 stay k) q).toNat = (gt0 stay k + 2 + q).toNat := by unfold refAt; rfl
  have e : atT 500 (putF f (refAt (gt0 stay k) q).toNat 499) m C (gt0 stay k) = atT 500 f m C (gt0 stay k) := atT_two (putF_ne (by omega)) (putF_ne (by omega))
  have h1 := h.refs k hk q.toNat (by rw [e]; omega)
  rw [show ((q.toNat : Nat) : Int) = q by omega, putF_self] at h1
  exact h1 (planM_none _ _ _ (by omega) _ (fun i hi => by have := hS.bd hC hI hi; omega))
end

end Go.Proofs.Ytkjgfblkbjlohaa
