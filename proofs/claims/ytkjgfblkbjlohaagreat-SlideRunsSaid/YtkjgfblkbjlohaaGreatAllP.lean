/- Layer 16, plain: where all stays as many words are taken as were; where nothing stays a run goes well. -/
import Derived.Test.YtkjgfblkbjlohaaGreatG41
set_option linter.all false

namespace Go.Proofs.YtkjgfblkbjlohaaGreat
open Go.RowKit

theorem rise_eq : ∀ l l' : List Int, l.Pairwise (· < ·) → l'.Pairwise (· < ·) → (∀ x, x ∈ l ↔ x ∈ l') → l = l'
  | [], [], _, _, _ => rfl
  | [], b :: l', _, _, h => absurd ((h b).2 (List.mem_cons_self ..)) (by simp)
  | a :: l, [], _, _, h => absurd ((h a).1 (List.mem_cons_self ..)) (by simp)
  | a :: l, b :: l', h1, h2, h => by
    obtain ⟨p1, p2⟩ := List.pairwise_cons.1 h1
    obtain ⟨q1, q2⟩ := List.pairwise_cons.1 h2
    have e : a = b := by
      rcases List.mem_cons.1 ((h a).1 (List.mem_cons_self ..)) with e | e
      · exact e
      · rcases List.mem_cons.1 ((h b).2 (List.mem_cons_self ..)) with e2 | e2
        · exact e2.symm
        · have := q1 a e; have := p1 b e2; omega
    subst e
    rw [rise_eq l l' p2 q2 (fun x => ⟨fun hx => ?_, fun hx => ?_⟩)]
    · rcases List.mem_cons.1 ((h x).1 (List.mem_cons_of_mem _ hx)) with e | e
      · have := p1 x hx; omega
      · exact e
    · rcases List.mem_cons.1 ((h x).2 (List.mem_cons_of_mem _ hx)) with e | e
      · have := q1 x hx; omega
      · exact e
theorem Tiles.rise_ {n m : Nat} {f : Nat → Int} {C : Nat → Cl} (hC : ∀ j, j < m → (C j).ok) {a z : Int} {X : List Int} (h : Tiles (atT n f m C) a z X) : X.Pairwise (· < ·) := by
  induction h with
  | nil a => exact List.Pairwise.nil
  | cons k1 k2 k3 ih =>
    rename_i a z L
    cases hi : (atT n f m C a).1.is with
    | false => rw [if_neg (by decide)]; exact ih
    | true =>
      rw [if_pos rfl]
      exact List.pairwise_cons.2 ⟨fun x hx => by have := (k3.bd hC hx).1; omega, ih⟩
theorem rise_pair {l : List Int} (h : ∀ i, i + 1 < l.length → gt0 l i < gt0 l (i + 1)) : l.Pairwise (· < ·) := by
  rw [List.pairwise_iff_getElem]
  intro i j hi hj hij
  have := stay_mono h hij hj
  unfold gt0 at this
  rw [List.getD_eq_getElem?_getD, List.getD_eq_getElem?_getD, List.getElem?_eq_getElem hi, List.getElem?_eq_getElem hj] at this
  exact this
theorem sumW_append (T : Int → Th × Int) (l l' : List Int) : sumW T (l ++ l') = sumW T l + sumW T l' := by unfold sumW; rw [List.map_append, List.sum_append]
theorem sumZ_take (T : Int → Th × Int) (l : List Int) : ∀ k, k ≤ l.length → sumZ (zOf T (gt0 l)) k = sumW T (l.take k)
  | 0, _ => by rw [List.take_zero]; rfl
  | k + 1, hk => by
    have ih := sumZ_take T l k (by omega)
    show sumZ _ k + zOf T (gt0 l) k = _
    rw [ih, List.take_add_one, List.getElem?_eq_getElem (by omega), Option.toList_some, sumW_snoc]
    unfold zOf gt0
    rw [List.getD_eq_getElem?_getD, List.getElem?_eq_getElem (by omega)]
    rfl
theorem sumZ_mono_ {Z : Nat → Int} {n : Nat} (h : ∀ i, i < n → 1 ≤ Z i) {a b : Nat} (hab : a ≤ b) (hb : b ≤ n) : sumZ Z a ≤ sumZ Z b := by
  induction b with
  | zero => obtain rfl : a = 0 := by omega
            exact Int.le_refl _
  | succ b ih =>
    rcases (by omega : a = b + 1 ∨ a ≤ b) with rfl | h2
    · exact Int.le_refl _
    · have h3 := ih h2 (by omega)
      have h4 := h b (by omega)
      have h5 : sumZ Z (b + 1) = sumZ Z b + Z b := rfl
      omega
section
variable {n m : Nat} {f : Nat → Int} {C : Nat → Cl} {L : Nat → Sp} {G : Nat → List Int} {ats stay : List Int}
/-- All three lists, one behind the other, are what stays. -/
theorem all_list (hC : ∀ j, j < m → (C j).ok) (hI : LInv n m f C L G ats) (hS : Stays n m f C ats stay) (hall : ∀ x, x ∈ ats → x ∈ stay) : stay = G 0 ++ (G 1 ++ G 2) := by
  have hlt : ∀ j k, j < k → k < 3 → ∀ x, x ∈ G j → ∀ y, y ∈ G k → x < y := fun j k hjk hk x hx y hy => by
    have h1 := (hI.tile j (by omega)).bd hC hx
    have h2 := (hI.tile k hk).bd hC hy
    have h3 := rise_sep hI.rise hjk hk
    have h4 := (rightB_iff _).1 (hI.rise j (by omega)).1
    omega
  refine rise_eq _ _ (rise_pair hS.rise) ?_ (fun x => ?_)
  · refine List.pairwise_append.2 ⟨(hI.tile 0 (by omega)).rise_ hC, List.pairwise_append.2 ⟨(hI.tile 1 (by omega)).rise_ hC, (hI.tile 2 (by omega)).rise_ hC, fun x hx y hy => hlt 1 2 (by omega) (by omega) x hx y hy⟩, fun x hx y hy => ?_⟩
    rcases List.mem_append.1 hy with hy | hy
    · exact hlt 0 1 (by omega) (by omega) x hx y hy
    · exact hlt 0 2 (by omega) (by omega) x hx y hy
  · constructor
    · intro hx
      obtain ⟨j, hj, hm⟩ := (hI.mem x).1 (hS.inn x hx)
      rcases (by omega : j = 0 ∨ j = 1 ∨ j = 2) with rfl | rfl | rfl
      · exact List.mem_append_left _ hm
      · exact List.mem_append_right _ (List.mem_append_left _ hm)
      · exact List.mem_append_right _ (List.mem_append_right _ hm)
    · intro hx
      refine hall x ((hI.mem x).2 ?_)
      rcases List.mem_append.1 hx with h | h
      · exact ⟨0, by omega, h⟩
      · rcases List.mem_append.1 h with h | h
        · exact ⟨1, by omega, h⟩
        · exact ⟨2, by omega, h⟩
theorem all_used (hC : ∀ j, j < m → (C j).ok) (hI : LInv n m f C L G ats) (hn : 451 ≤ n) (hS : Stays n m f C ats stay) (hall : ∀ x, x ∈ ats → x ∈ stay) (hF : ∀ j, j < 3 → fullJ (atT n f m C) L G j) :
    (L 0).t ≤ (slidNow n m f C L stay 0).t ∧ (slidNow n m f C L stay 0).t - (L 0).t + ((slidNow n m f C L stay 1).t - (L 1).t) + ((slidNow n m f C L stay 2).t - (L 2).t) = 0 := by
  have hl := all_list hC hI hS hall
  obtain ⟨c, c0, c3, hc⟩ := hS.slid hC hI hn
  obtain ⟨a1, a2, a3⟩ := hc 0 (by omega)
  obtain ⟨b1, b2, b3⟩ := hc 1 (by omega)
  obtain ⟨d1, d2, d3⟩ := hc 2 (by omega)
  simp only [Nat.zero_add, Nat.reduceAdd] at a1 a3 b1 b3 d1 d3
  have f0 := hF 0 (by omega)
  have f1 := hF 1 (by omega)
  have f2 := hF 2 (by omega)
  unfold fullJ at f0 f1 f2
  have hW := hS.well hC hI hn
  have hlen : stay.length = (G 0).length + ((G 1).length + (G 2).length) := by rw [hl]; simp
  have hsum : sumZ (slidZ n m f C stay) stay.length = sumW (atT n f m C) (G 0) + (sumW (atT n f m C) (G 1) + sumW (atT n f m C) (G 2)) := by
    unfold slidZ
    rw [sumZ_take _ _ _ (Nat.le_refl _), List.take_length]
    conv => lhs; rw [hl]
    rw [sumW_append, sumW_append]
  have hg0 : sumZ (slidZ n m f C stay) (G 0).length = sumW (atT n f m C) (G 0) := by
    unfold slidZ
    rw [sumZ_take _ _ _ (by omega)]
    have : stay.take (G 0).length = G 0 := by rw [hl]; exact List.take_left
    rw [this]
  have hge : (G 0).length ≤ c 1 := by
    rcases Nat.lt_or_ge (c 1) (G 0).length with hlt | h
    · exfalso
      have hgt : gt0 stay (c 1) ∈ G 0 := by
        have e : gt0 stay (c 1) = (G 0)[c 1] := by
          unfold gt0
          rw [List.getD_eq_getElem?_getD, hl, List.getElem?_append_left hlt, List.getElem?_eq_getElem hlt]
          rfl
        rw [e]; exact List.getElem_mem _
      have h1 := (hI.tile 0 (by omega)).bd hC hgt
      have h2 := hS.go1 hC hI hn (i := c 1) (by omega)
      have r0 := (rightB_iff _).1 (hI.rise 0 (by omega)).1
      have key : ∀ j, 0 < j → j < 3 → c j ≤ c 1 → c 1 < c (j + 1) → False := fun j j0 j3 k1 k2 => by
        have ht := (hc j j3).2.1.walk.sep hC |>.1 (slidAt n m f C L stay (c 1)) (List.mem_map.2 ⟨c 1, List.mem_range'_1.2 ⟨k1, by omega⟩, rfl⟩)
        have hs := rise_sep hI.rise j0 j3
        have e : slidAt n m f C L stay (c 1) = dP (atT n f m C) L 3 (gt0 stay) stay.length (c 1) := rfl
        omega
      by_cases e2 : c 1 < c 2
      · exact key 1 (by omega) (by omega) (Nat.le_refl _) e2
      · have : c 2 = c 1 := by omega
        exact key 2 (by omega) (by omega) (by omega) (by simp only [Nat.reduceAdd]; omega)
    · exact h
  have hm0 := sumZ_mono_ (Z := slidZ n m f C stay) (n := stay.length) hW.big hge (by omega)
  rw [c0] at a3
  rw [c3] at d3
  have z0 : sumZ (slidZ n m f C stay) 0 = 0 := rfl
  omega
/-- Where nothing stays. -/
theorem none_good (hI : ∃ G : Nat → List Int, (∀ j, j < 3 → Tiles (atT n f m C) (L j).f (L j).t (G j))) (hR : Rise L 3) (hE : ∀ j, j < 3 → (L j).e ≤ n) (S : Nat → Int) : RunGood n m f C L 3 S 0 (fun _ => 0) 1 := by
  obtain ⟨G, hG⟩ := hI
  refine ⟨⟨hR, hE, fun i hi => by omega⟩, ⟨G, fun x => @decide (∃ j, j < 3 ∧ x ∈ G j) (Classical.propDecidable _), ⟨fun j hj => (hG j hj).walk, fun x => @decide_eq_true_iff _ (Classical.propDecidable _)⟩, fun i hi => by omega⟩, fun i hi => by omega, fun i hi => ?_⟩
  unfold toM
  rw [planM_zero _ _ _ (fun i hi => by omega)]
  exact fun h => by cases h
theorem now_rise (hI : LInv n m f C L G ats) (hC : ∀ j, j < m → (C j).ok) (hn : 451 ≤ n) (hS : Stays n m f C ats stay) : Rise (slidNow n m f C L stay) 3 ∧ ∀ j, j < 3 → (slidNow n m f C L stay j).e ≤ n := by
  have hW := hS.well hC hI hn
  have hfe : ∀ j, (slidNow n m f C L stay j).f = (L j).f ∧ (slidNow n m f C L stay j).e = (L j).e := fun j => sts_fe (L := L) (n := 3) (Z := zOf (atT n f m C) (gt0 stay)) stay.length j
  refine ⟨fun j hj => ⟨hW.right hj, ?_⟩, fun j hj => ?_⟩
  · rw [(hfe j).1, endAt_congr (L := L) (fun j => (hfe j).2)]
    exact (hI.rise j hj).2
  · have := hI.ends j hj
    rw [(hfe j).2]; omega
theorem planM_val (S : Nat → Int) (out : List Int) : ∀ k x v, planM S out k x = some v → v = 0 ∨ ∃ i, i < k ∧ v = out.getD i 0
  | 0, x, v, h => by
    unfold planM putM at h
    by_cases e : x = 0
    · rw [if_pos e] at h; injection h with h; exact .inl h.symm
    · rw [if_neg e] at h; cases h
  | k + 1, x, v, h => by
    unfold planM putM at h
    by_cases e : x = S k
    · rw [if_pos e] at h; injection h with h; exact .inr ⟨k, by omega, h.symm⟩
    · rw [if_neg e] at h
      exact (planM_val S out k x v h).imp_right (fun ⟨i, hi, e⟩ => ⟨i, by omega, e⟩)
theorem downF_i64 {f : Nat → Int} {s P Z : Nat → Int} {adj : Nat → (Nat → Int) → Nat → Int} {n m : Nat} (hf : ∀ j, j < n → I64 (f j)) (hp : ∀ i, i < m → 0 ≤ s i ∧ s i + Z i ≤ n) (ha : ∀ i, i < m → ∀ g : Nat → Int, (∀ j, j < n → I64 (g j)) → ∀ j, j < n → I64 (adj i g j)) :
    ∀ i, i ≤ m → ∀ j, j < n → I64 (downF f s P Z adj i j)
  | 0, _, j, hj => hf j hj
  | i + 1, hi, j, hj => by
    have ih := ha i (by omega) (downF f s P Z adj i) (downF_i64 hf hp ha i (by omega))
    have h1 := hp i (by omega)
    show I64 (moveF _ _ _ _ j)
    unfold moveF
    split
    · exact ih _ (by omega)
    · exact ih _ hj
theorem slid_i64 (hC : ∀ j, j < m → (C j).ok) (hI : LInv n m f C L G ats) (hn : 451 ≤ n) (hS : Stays n m f C ats stay) : ∀ j, j < n → I64 (slidF n m f C L stay j) := by
  have hW := hS.well hC hI hn
  refine downF_i64 hI.i64 (fun i hi => ?_) (fun i hi g hg j hj => ?_) stay.length (Nat.le_refl _)
  · obtain ⟨h, r, d, k, e, _, _, _, _, _, g1, g2⟩ := hS.obj hC hI hn hi
    have hz : zOf (atT n f m C) (gt0 stay) i = k := by unfold zOf; rw [e]
    rw [hz]; omega
  · obtain ⟨h, r, d, k, e, hc, hok, _⟩ := hS.obj hC hI hn hi
    have hob : objP (atT n f m C (gt0 stay i)) = (⟨h, r, d, k⟩, 0) := by rw [e]; exact objP_same (fun hh => hc hh.2)
    unfold adjOf adjF
    rw [hob]
    unfold putF
    split
    · have := hdW_bd hok.clean
      exact ⟨by show -9223372036854775808 ≤ hdW h.clean; omega, by show hdW h.clean ≤ 9223372036854775807; omega⟩
    · unfold adjR
      split
      · cases hM : toM (atT n f m C) L 3 (gt0 stay) stay.length (g j) with
        | none => exact i64_small (by decide) (by decide)
        | some v =>
          show I64 v
          rcases planM_val _ _ _ _ _ hM with rfl | ⟨q, hq, rfl⟩
          · exact i64_small (by decide) (by decide)
          · have := hW.out_bd hq
            have h2 := hW.big q hq
            exact i64_small (by omega) (by omega)
      · exact hg j hj
end

end Go.Proofs.YtkjgfblkbjlohaaGreat
