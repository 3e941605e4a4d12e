/- Layer 16, plain: what lies in memory behind a run. -/
import Derived.Test.YtkjgfblkbjlohaaGreatG35
import Derived.Test.YtkjgfblkbjlohaaGreatG32
set_option linter.all false

namespace Go.Proofs.YtkjgfblkbjlohaaGreat
open Go.RowKit
set_option linter.unusedSectionVars false

theorem LInv.walked {n m : Nat} {f : Nat → Int} {C : Nat → Cl} {L : Nat → Sp} {G : Nat → List Int} {ats : List Int} (h : LInv n m f C L G ats) :
    Walked (atT n f m C) L 3 G (fun x => decide (x ∈ ats)) :=
  ⟨fun j hj => (h.tile j hj).walk, fun x => by rw [decide_eq_true_eq]; exact h.mem x⟩
def gt0 (l : List Int) : Nat → Int := fun i => l.getD i 0
theorem gt0_mem {l : List Int} {i : Nat} (h : i < l.length) : gt0 l i ∈ l := by
  unfold gt0
  rw [List.getD_eq_getElem?_getD, List.getElem?_eq_getElem h]
  exact List.getElem_mem _
theorem mem_gt0 {l : List Int} {x : Int} (h : x ∈ l) : ∃ i, i < l.length ∧ gt0 l i = x := by
  obtain ⟨i, hi, e⟩ := List.getElem_of_mem h
  exact ⟨i, hi, by unfold gt0; rw [List.getD_eq_getElem?_getD, List.getElem?_eq_getElem hi]; exact e⟩
/-- What stays, plain: of the objects, rising, closed. -/
structure Stays (n m : Nat) (f : Nat → Int) (C : Nat → Cl) (ats stay : List Int) : Prop where
  rise : ∀ i, i + 1 < stay.length → gt0 stay i < gt0 stay (i + 1)
  inn : ∀ x, x ∈ stay → x ∈ ats
  ref : ∀ a, a ∈ stay → ∀ x, x ∈ refsOf f a (objP (atT n f m C a)).1.refs.toNat → x = 0 ∨ x ∈ stay
theorem StayIs.stays {n m : Nat} {f : Nat → Int} {C : Nat → Cl} {ats stay roots : List Int} (h : StayIs n m f C ats stay roots) : Stays n m f C ats stay := ⟨h.rise, h.inn, h.ref⟩
section
variable {n m : Nat} {f : Nat → Int} {C : Nat → Cl} {L : Nat → Sp} {G : Nat → List Int} {ats stay : List Int}
variable (hC : ∀ j, j < m → (C j).ok) (hI : LInv n m f C L G ats) (hn : 451 ≤ n) (hS : Stays n m f C ats stay)
include hC hI hn hS
theorem Stays.pre : RunPre L 3 n (gt0 stay) stay.length :=
  ⟨hI.rise, fun j hj => by have := hI.ends j hj; omega, hS.rise⟩
omit hn in
theorem Stays.bd {i : Nat} (hi : i < stay.length) : 1 ≤ gt0 stay i ∧ gt0 stay i < 451 := hI.len hC (hS.inn _ (gt0_mem hi))
omit hn in
theorem Stays.some_ (out : List Int) {x : Int} (hx : x = 0 ∨ x ∈ stay) : planM (gt0 stay) out stay.length x ≠ none := by
  rcases hx with rfl | hx
  · rw [planM_zero _ _ _ (fun i hi => by have := hS.bd hC hI hi; omega)]
    exact fun h => by cases h
  · obtain ⟨i, hi, rfl⟩ := mem_gt0 hx
    rw [planM_at _ _ _ (fun a b ha hb e => stay_inj hS.rise ha hb e) i hi]
    exact fun h => by cases h
theorem Stays.good {rr : Nat} {Rt : Nat → Int} (hR : ∀ i, i < rr → Rt i = 0 ∨ Rt i ∈ stay) : RunGood n m f C L 3 (gt0 stay) stay.length Rt rr := by
  refine ⟨hS.pre hC hI hn, ⟨G, _, hI.walked, fun i hi => by rw [decide_eq_true_eq]; exact hS.inn _ (gt0_mem hi)⟩, fun i hi r hr => ?_, fun i hi => hS.some_ hC hI _ (hR i hi)⟩
  refine hS.some_ hC hI _ (hS.ref _ (gt0_mem hi) _ (mem_refsOf.2 ⟨r, ?_, ?_⟩))
  · obtain ⟨j, _, _, _, _, q3, q4, _⟩ := hI.in_ hC (hS.inn _ (gt0_mem hi))
    rw [objP_obj q3 q4] at hr ⊢
    have := (at_ok hC q3).2.2.2
    omega
  · have := hS.bd hC hI hi
    unfold refAt
    congr 1
theorem Stays.there : ∃ sp, There n m f C L 3 (gt0 stay) stay.length sp :=
  hI.walked.there hC (fun i hi => by rw [decide_eq_true_eq]; exact hS.inn _ (gt0_mem hi))
theorem Stays.down : Down stay.length (gt0 stay) (dP (atT n f m C) L 3 (gt0 stay) stay.length) (zOf (atT n f m C) (gt0 stay)) (adjOf (atT n f m C) (toM (atT n f m C) L 3 (gt0 stay) stay.length) (gt0 stay)) := by
  obtain ⟨sp, h⟩ := hS.there hC hI hn
  exact h.down hC (hS.pre hC hI hn) _
theorem Stays.well : Well L 3 (zOf (atT n f m C) (gt0 stay)) stay.length := by
  obtain ⟨sp, h⟩ := hS.there hC hI hn
  exact (h.items hC (hS.pre hC hI hn)).well
/-- Each goes to somewhere from 1 on, and not above where it stood. -/
theorem Stays.go1 {i : Nat} (hi : i < stay.length) : 1 ≤ dP (atT n f m C) L 3 (gt0 stay) stay.length i ∧ dP (atT n f m C) L 3 (gt0 stay) stay.length i ≤ gt0 stay i := by
  have hW := hS.well hC hI hn
  refine ⟨?_, (hS.down hC hI hn).le i hi⟩
  obtain ⟨h1, h2, h3⟩ := hW.lies hi
  have h0 := hI.rise (0) (by omega)
  have : 1 ≤ (L (pos L 3 (zOf (atT n f m C) (gt0 stay)) i)).f := by
    rcases Nat.eq_zero_or_pos (pos L 3 (zOf (atT n f m C) (gt0 stay)) i) with e | e
    · rw [e]; exact h0.2
    · have hs := rise_sep hI.rise e h1
      have hr := (rightB_iff _).1 h0.1
      have : (1 : Int) ≤ (L 0).f := h0.2
      omega
  unfold dP
  omega
theorem Stays.go2 {i j : Nat} (hij : i < j) (hj : j < stay.length) : dP (atT n f m C) L 3 (gt0 stay) stay.length i < dP (atT n f m C) L 3 (gt0 stay) stay.length j := by
  have hD := hS.down hC hI hn
  have := hD.psep hij hj
  have := hD.big i (by omega)
  omega
/-- Where a root goes. -/
def goTo (T : Int → Th × Int) (L : Nat → Sp) (stay : List Int) (x : Int) : Int := (toM T L 3 (gt0 stay) stay.length x).getD 0
theorem Stays.to0 : goTo (atT n f m C) L stay 0 = 0 := by
  unfold goTo toM
  rw [planM_zero _ _ _ (fun i hi => by have := hS.bd hC hI hi; omega)]
  rfl
theorem Stays.toI {i : Nat} (hi : i < stay.length) : goTo (atT n f m C) L stay (gt0 stay i) = dP (atT n f m C) L 3 (gt0 stay) stay.length i := by
  unfold goTo
  rw [toM_at (hS.pre hC hI hn) hi]
  rfl
theorem Stays.mono {x y : Int} (hx : x = 0 ∨ x ∈ stay) (hy : y = 0 ∨ y ∈ stay) : goTo (atT n f m C) L stay x < goTo (atT n f m C) L stay y ↔ x < y := by
  rcases hx with rfl | hx
  · rw [hS.to0 hC hI hn]
    rcases hy with rfl | hy
    · rw [hS.to0 hC hI hn]
    · obtain ⟨j, hj, rfl⟩ := mem_gt0 hy
      have h1 := hS.go1 hC hI hn hj
      rw [hS.toI hC hI hn hj]
      omega
  · obtain ⟨i, hi, rfl⟩ := mem_gt0 hx
    have h1 := hS.go1 hC hI hn hi
    rw [hS.toI hC hI hn hi]
    rcases hy with rfl | hy
    · rw [hS.to0 hC hI hn]
      omega
    · obtain ⟨j, hj, rfl⟩ := mem_gt0 hy
      rw [hS.toI hC hI hn hj]
      rcases Nat.lt_trichotomy i j with h | h | h
      · have := hS.go2 hC hI hn h hj
        have := stay_mono hS.rise h hj
        omega
      · subst h; omega
      · have := hS.go2 hC hI hn h hi
        have := stay_mono hS.rise h hi
        omega
theorem Stays.le_ {x : Int} (hx : x = 0 ∨ x ∈ stay) : goTo (atT n f m C) L stay x ≤ x ∧ (goTo (atT n f m C) L stay x = 0 ↔ x = 0) := by
  rcases hx with rfl | hx
  · rw [hS.to0 hC hI hn]; omega
  · obtain ⟨i, hi, rfl⟩ := mem_gt0 hx
    have h1 := hS.go1 hC hI hn hi
    rw [hS.toI hC hI hn hi]
    omega
end

end Go.Proofs.YtkjgfblkbjlohaaGreat

namespace Go.Proofs.YtkjgfblkbjlohaaGreat
open Go.RowKit
set_option linter.unusedSectionVars false

/-- An object's words at another place, with another head of its class. -/
theorem atT_moved {n m : Nat} {f g : Nat → Int} {C : Nat → Cl} {a p : Int} {h h' : Hd} {r d k : Int} (hc : h.cls ≠ 0) (e : atT n f m C a = (⟨h, r, d, k⟩, 0)) (hk : h'.ok) (hcl : h'.cls = h.cls) (hp1 : 1 ≤ p) (hpk : p + k ≤ n) (hk2 : 2 ≤ k) (h1 : g p.toNat = hdW h') (h2 : g (p + 1).toNat = f (a + 1).toNat) : atT n g m C p = (⟨h', r, d, k⟩, 0) := by
  have h0 : (atT n f m C a).2 = 0 := by rw [e]
  obtain ⟨hT, _, hcs⟩ := at_cases h0
  rcases hcs with ⟨q1, _, q3⟩ | ⟨q1, _, _, _, _, q3⟩ | ⟨q1, q2, q3, q4, q5⟩
  · rw [e] at q3; injection q3 with q3; injection q3 with q3; rw [q3] at hc; exact absurd q1 hc
  · rw [e] at q3; injection q3 with q3; injection q3 with q3; rw [q3] at hc; exact absurd q1 hc
  · rw [e] at q5
    injection q5 with q5
    injection q5 with e1 e2 e3 e4
    have hraw : rawH (g p.toNat) = h' := by rw [h1]; exact raw_hdW hk
    have e0 : h'.cls = (rawH (f a.toNat)).cls := by rw [hcl, e1]
    rw [e4] at hpk hk2
    rw [e2, e3, e4]
    refine atT_obj (thB_true.2 ⟨hp1, by omega, by omega, by omega⟩) (by rw [hraw]; exact hk) hraw (by rw [hcl]; exact hc) (by omega) h2 (by rw [e0]; exact q3) (by rw [e0]) (by rw [e0]) (thB_true.2 ⟨hp1, by omega, by omega, by omega⟩)
/-- Which go into a space. -/
def lstI (pos : Nat → Nat) : Nat → Nat → List Nat
  | 0, _ => []
  | k + 1, j => if j = pos k then lstI pos k j ++ [k] else lstI pos k j
theorem lstI_succ (pos : Nat → Nat) (k j : Nat) : lstI pos (k + 1) j = if j = pos k then lstI pos k j ++ [k] else lstI pos k j := rfl
def cI (pos : Nat → Nat) (k : Nat) : Nat → Nat
  | 0 => 0
  | j + 1 => cI pos k j + (lstI pos k j).length
theorem cI_zero (pos : Nat → Nat) : ∀ j, cI pos 0 j = 0
  | 0 => rfl
  | j + 1 => by show cI pos 0 j + 0 = 0; rw [cI_zero pos j]
theorem cI_succ (pos : Nat → Nat) (k : Nat) : ∀ j, cI pos (k + 1) j = cI pos k j + if pos k < j then 1 else 0
  | 0 => by show (0 : Nat) = 0 + _; rw [if_neg (by omega)]
  | j + 1 => by
    show cI pos (k + 1) j + (lstI pos (k + 1) j).length = cI pos k j + (lstI pos k j).length + _
    rw [cI_succ pos k j]
    rw [lstI_succ]
    by_cases e : j = pos k
    · rw [if_pos e, if_neg (by omega), if_pos (by omega), List.length_append, List.length_singleton]; omega
    · rw [if_neg e]
      by_cases h : pos k < j
      · rw [if_pos h, if_pos (by omega)]; omega
      · rw [if_neg h, if_neg (by omega)]; omega
theorem cI_all (pos : Nat → Nat) (q : Nat) : ∀ k, (∀ i, i < k → pos i < q) → cI pos k q = k
  | 0, _ => cI_zero pos q
  | k + 1, h => by rw [cI_succ, cI_all pos q k (fun i hi => h i (by omega)), if_pos (h k (by omega))]
theorem lstI_nil (pos : Nat → Nat) (j : Nat) : ∀ k, (∀ i, i < k → pos i ≠ j) → lstI pos k j = []
  | 0, _ => rfl
  | k + 1, h => by
    rw [lstI_succ]
    rw [if_neg (fun e => h k (by omega) e.symm)]
    exact lstI_nil pos j k (fun i hi => h i (by omega))
theorem lstI_run (pos : Nat → Nat) (hm : ∀ i k, i < k → pos i ≤ pos k) : ∀ k j, lstI pos k j = List.range' (cI pos k j) (lstI pos k j).length
  | 0, _ => rfl
  | k + 1, j => by
    have ih := lstI_run pos hm k j
    rw [lstI_succ]
    by_cases e : j = pos k
    · rw [if_pos e, cI_succ, if_neg (by omega), List.length_append, List.length_singleton, List.range'_concat, Nat.add_zero, ← ih]
      have h2 : cI pos k (j + 1) = k := cI_all pos (j + 1) k (fun i hi => by have := hm i k hi; omega)
      have h3 : cI pos k j + (lstI pos k j).length = k := h2
      rw [Nat.one_mul, h3]
    · rw [if_neg e]
      by_cases h : pos k < j
      · rw [lstI_nil pos j k (fun i hi => by have := hm i k hi; omega)]
        rfl
      · rw [cI_succ, if_neg h]
        exact ih
section
variable {n m : Nat} {f : Nat → Int} {C : Nat → Cl} {L : Nat → Sp} {G : Nat → List Int} {ats stay : List Int}
variable (hC : ∀ j, j < m → (C j).ok) (hI : LInv n m f C L G ats) (hn : 451 ≤ n) (hS : Stays n m f C ats stay)
include hC hI hn hS
/-- Behind a run: the memory. -/
def slidF (n m : Nat) (f : Nat → Int) (C : Nat → Cl) (L : Nat → Sp) (stay : List Int) : Nat → Int := runG (atT n f m C) f L 3 (gt0 stay) stay.length stay.length
def slidAt (n m : Nat) (f : Nat → Int) (C : Nat → Cl) (L : Nat → Sp) (stay : List Int) : Nat → Int := dP (atT n f m C) L 3 (gt0 stay) stay.length
def slidZ (n m : Nat) (f : Nat → Int) (C : Nat → Cl) (stay : List Int) : Nat → Int := zOf (atT n f m C) (gt0 stay)
def slidNow (n m : Nat) (f : Nat → Int) (C : Nat → Cl) (L : Nat → Sp) (stay : List Int) : Nat → Sp := (sts L 3 (zOf (atT n f m C) (gt0 stay)) stay.length).now
theorem Stays.obj {i : Nat} (hi : i < stay.length) : ∃ h r d k, atT n f m C (gt0 stay i) = (⟨h, r, d, k⟩, 0) ∧ h.cls ≠ 0 ∧ h.ok ∧ 0 ≤ r ∧ 0 ≤ d ∧ k = 2 + r + d ∧ 1 ≤ gt0 stay i ∧ gt0 stay i + k ≤ n := by
  obtain ⟨j, _, _, _, _, q3, q4, _⟩ := hI.in_ hC (hS.inn _ (gt0_mem hi))
  obtain ⟨b1, b2, b3, b4, b5, b6, b7, b8⟩ := at_ok hC q3
  have b8 := b8 q4
  have hO := obj_hd (n := n) (m := m) (f := f) (C := C) (a := gt0 stay i) (by rw [objP_obj q3 q4]; exact q3)
  rw [objP_obj q3 q4] at hO
  refine ⟨(atT n f m C (gt0 stay i)).1.hd, (atT n f m C (gt0 stay i)).1.refs, (atT n f m C (gt0 stay i)).1.data, (atT n f m C (gt0 stay i)).1.words, ?_, ?_, ?_, b4, b6, b8, b1, b3⟩
  · rw [← q3]
  · intro h
    unfold Th.is at q4
    rw [h] at q4
    exact absurd q4 (by decide)
  · rw [hO.1]; exact hO.2
/-- The i-th, where it went. -/
theorem Stays.post {i : Nat} (hi : i < stay.length) : ∃ h r d k, atT n f m C (gt0 stay i) = (⟨h, r, d, k⟩, 0) ∧ h.cls ≠ 0 ∧ h.ok ∧ slidZ n m f C stay i = k ∧ atT n (slidF n m f C L stay) m C (slidAt n m f C L stay i) = (⟨h.clean, r, d, k⟩, 0) := by
  obtain ⟨h, r, d, k, e, hc, hok, r0, d0, hk, g1, g2⟩ := hS.obj hC hI hn hi
  have hD := hS.down hC hI hn
  have h1 := hS.go1 hC hI hn hi
  have hz : zOf (atT n f m C) (gt0 stay) i = k := by unfold zOf; rw [e]
  have hob : objP (atT n f m C (gt0 stay i)) = (⟨h, r, d, k⟩, 0) := by rw [e]; exact objP_same (fun hh => hc hh.2)
  refine ⟨h, r, d, k, e, hc, hok, hz, ?_⟩
  have hw : ∀ t : Int, 0 ≤ t → t < k → slidF n m f C L stay (slidAt n m f C L stay i + t).toNat = adjOf (atT n f m C) (toM (atT n f m C) L 3 (gt0 stay) stay.length) (gt0 stay) i f (gt0 stay i + t).toNat := fun t t0 t1 =>
    hD.dst stay.length (Nat.le_refl _) i hi t t0 (by rw [hz]; exact t1)
  refine atT_moved hc e hok.clean rfl h1.1 ?_ (by omega) ?_ ?_
  · have := h1.2
    unfold slidAt
    omega
  · have := hw 0 (by omega) (by omega)
    rw [Int.add_zero, Int.add_zero] at this
    rw [this]
    unfold adjOf adjF
    rw [putF_self, hob]
  · rw [hw 1 (by omega) (by omega)]
    unfold adjOf adjF
    rw [putF_ne (by omega)]
    exact (adjR_head g1 _).2
/-- The spaces behind it are tiled by what stayed. -/
theorem Stays.slid : ∃ c : Nat → Nat, c 0 = 0 ∧ c 3 = stay.length ∧ ∀ j, j < 3 → c j ≤ c (j + 1) ∧ Tiles (atT n (slidF n m f C L stay) m C) (L j).f (slidNow n m f C L stay j).t ((List.range' (c j) (c (j + 1) - c j)).map (slidAt n m f C L stay)) ∧
    (slidNow n m f C L stay j).t - (L j).f = sumZ (slidZ n m f C stay) (c (j + 1)) - sumZ (slidZ n m f C stay) (c j) := by
  have hW := hS.well hC hI hn
  have hpm : ∀ i k, i < k → pos L 3 (slidZ n m f C stay) i ≤ pos L 3 (slidZ n m f C stay) k := fun i k => by
    induction k with
    | zero => intro h; omega
    | succ k ih =>
      intro h
      have h1 : pos L 3 (slidZ n m f C stay) k ≤ pos L 3 (slidZ n m f C stay) (k + 1) := pos_ge (k + 1)
      rcases (by omega : i < k ∨ i = k) with h2 | h2
      · have := ih h2; omega
      · subst h2; exact h1
  have hkey : ∀ k, k ≤ stay.length → ∀ j, j < 3 → Tiles (atT n (slidF n m f C L stay) m C) (L j).f ((sts L 3 (slidZ n m f C stay) k).now j).t ((lstI (pos L 3 (slidZ n m f C stay)) k j).map (slidAt n m f C L stay)) ∧
      ((sts L 3 (slidZ n m f C stay) k).now j).t - (L j).f = sumZ (slidZ n m f C stay) (cI (pos L 3 (slidZ n m f C stay)) k (j + 1)) - sumZ (slidZ n m f C stay) (cI (pos L 3 (slidZ n m f C stay)) k j) := by
    intro k
    induction k with
    | zero =>
      intro _ j _
      refine ⟨.nil _, ?_⟩
      rw [cI_zero, cI_zero]
      show (L j).f - (L j).f = _
      omega
    | succ k ih =>
      intro hk j hj
      obtain ⟨ih1, ih2⟩ := ih (by omega) j hj
      obtain ⟨h, r, d, kk, e1, hc, hok, hz, e2⟩ := hS.post hC hI hn (i := k) (by omega)
      rw [sts_t]
      rw [lstI_succ]
      by_cases e : j = pos L 3 (slidZ n m f C stay) k
      · rw [if_pos e, if_pos e, List.map_append]
        have hat : slidAt n m f C L stay k = ((sts L 3 (slidZ n m f C stay) k).now j).t := by
          rw [e]; exact sts_outv stay.length k (by omega)
        have hk1 : 1 ≤ kk := by have := hW.big k (by omega); rw [← hz]; exact this
        have h1 := Tiles.one (T := atT n (slidF n m f C L stay) m C) (a := slidAt n m f C L stay k) (by rw [e2]) (by rw [e2]; exact hk1)
        rw [e2] at h1
        rw [if_pos (show (⟨h.clean, r, d, kk⟩ : Th).is = true from by unfold Th.is; have : h.clean.cls ≠ 0 := hc; simpa using this)] at h1
        rw [hz]
        refine ⟨ih1.append (by rw [← hat]; exact h1), ?_⟩
        have ht : cI (pos L 3 (slidZ n m f C stay)) k (j + 1) = k := cI_all _ (j + 1) k (fun i hi => by have := hpm i k hi; omega)
        rw [cI_succ _ k (j + 1), if_pos (by omega), cI_succ _ k j, if_neg (by omega), ht]
        rw [ht] at ih2
        have hs : sumZ (slidZ n m f C stay) (k + 1) = sumZ (slidZ n m f C stay) k + slidZ n m f C stay k := rfl
        rw [hs, hz]
        simp only [Nat.add_zero]
        omega
      · rw [if_neg e, if_neg e]
        refine ⟨ih1, ?_⟩
        rw [ih2]
        by_cases h : pos L 3 (slidZ n m f C stay) k < j
        · have a1 : cI (pos L 3 (slidZ n m f C stay)) k j = k := cI_all _ j k (fun i hi => by have := hpm i k hi; omega)
          have a2 : cI (pos L 3 (slidZ n m f C stay)) k (j + 1) = k := cI_all _ (j + 1) k (fun i hi => by have := hpm i k hi; omega)
          rw [cI_succ, cI_succ, if_pos h, if_pos (by omega), a1, a2]
          omega
        · rw [cI_succ, cI_succ, if_neg h, if_neg (by omega)]
          rfl
  refine ⟨cI (pos L 3 (slidZ n m f C stay)) stay.length, rfl, cI_all _ 3 _ (fun i hi => pos_lt hW.free hi), fun j hj => ?_⟩
  obtain ⟨k1, k2⟩ := hkey stay.length (Nat.le_refl _) j hj
  rw [lstI_run _ hpm] at k1
  have hl : cI (pos L 3 (slidZ n m f C stay)) stay.length (j + 1) - cI (pos L 3 (slidZ n m f C stay)) stay.length j = (lstI (pos L 3 (slidZ n m f C stay)) stay.length j).length := by
    show cI _ _ j + _ - cI _ _ j = _
    omega
  refine ⟨by show cI _ _ j ≤ cI _ _ j + _; omega, by rw [hl]; exact k1, k2⟩
end

end Go.Proofs.YtkjgfblkbjlohaaGreat
