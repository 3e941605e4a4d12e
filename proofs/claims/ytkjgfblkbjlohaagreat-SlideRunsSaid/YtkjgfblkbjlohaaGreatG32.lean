/- Layer 16, slide: Run. -/
import Derived.Test.YtkjgfblkbjlohaaGreatG29
import Derived.Test.YtkjgfblkbjlohaaGreatG31
set_option linter.all false

namespace Go.Proofs.YtkjgfblkbjlohaaGreat
open Go.RowKit

def clone_any_ (mm : Nat) (S : Nat → Int) (w : World) (e : Ending) (w' : World) : Prop := ∃ v, e = .returned v ∧ OwnInts w' w.heap.size v ((List.range mm).map S) ∧ Keeps w w'
theorem clone_stay (Sd : Option Addr) (mm sc : Nat) (S : Nat → Int) (w : World) (hr : Rd w Sd mm (intF .i64 S)) (hv : Sd = none → mm = 0 ∧ sc = 0) (hm : mm ≤ 1000) :
    Calls Tryz.prog 27 #[.slice Sd mm sc] w (clone_any_ mm S w) := by
  cases Sd with
  | none =>
    obtain ⟨rfl, rfl⟩ := hv rfl
    exact (clone_nil w).mono (fun e w' h => ⟨_, h.1, OwnInts.nil_ _ _, h.2⟩)
  | some ad => exact clone_ints ad mm sc S w hr (by omega)
theorem map_range_getD (S : Nat → Int) (m i : Nat) (h : i < m) : ((List.range m).map S).getD i 0 = S i := by
  rw [List.getD_eq_getElem?_getD, List.getElem?_map, List.getElem?_range h]; rfl
theorem zero_run (w : World) : (zeroValue 85).run Tryz.prog w = .ok (.agg #[.pointer none, .pointer none, .pointer none, .slice none 0 0, .slice none 0 0, .map none]) w := by kernel_rfl
theorem zero_prun (w : World) : (zeroValue 82).run Tryz.prog w = .ok (.pointer none) w := by kernel_rfl

def SaysP (P : Prop) (w : World) (s : Value) (wx : World) : Prop := ∃ b : Bool, s = .bool b ∧ (b = true ↔ P) ∧ Keeps w wx
def RunBlk (ba bt : Nat) (stay : Value) (w : World) (v : Value) (wx : World) : Prop :=
  ∃ pr rb, v = .pointer (some ⟨pr, 0, none⟩) ∧ BL wx rb 85 (runV ba bt stay (.slice none 0 0) (.map none)) ∧ wx.cell? ⟨pr, 0, none⟩ = some (.pointer (some ⟨rb, 0, none⟩)) ∧ w.heap.size ≤ rb ∧ w.heap.size ≤ pr ∧ pr ≠ rb ∧ Keeps w wx
/-- A plan that fails: what stays isn't there. -/
theorem plan_bad {n m : Nat} {f : Nat → Int} {C : Nat → Cl} (hC : ∀ j, j < m → (C j).ok) {L : Nat → Sp} {q : Nat} {S : Nat → Int} {mm : Nat} (hP : RunPre L q n S mm) {Rt : Nat → Int} {rr : Nat} {x : Int} (hx : x ≠ 0)
    (hw : (x = 12 ∧ ∃ j, j < q ∧ ∃ y, y ≠ 0 ∧ WalkR (atT n f m C) (L j).t (L j).f [] y) ∨ (x = 12 ∧ ∃ G X, Walked (atT n f m C) L q G X ∧ ∃ i, i < mm ∧ X (S i) = false) ∨
      (∃ G X, Walked (atT n f m C) L q G X ∧ (∀ i, i < mm → X (S i) = true) ∧ ∃ out k now, PlanIs L q (zOf (atT n f m C) S) mm out k now x)) : x = 12 ∧ ¬ RunGood n m f C L q S mm Rt rr := by
  rcases hw with ⟨h1, j, hj, y, hy, hw⟩ | ⟨h1, G, X, hG, i, hi, hX⟩ | ⟨G, X, hG, hX, out, k, now, hp⟩
  · exact ⟨h1, fun hg => by
      obtain ⟨G, X, hG, _⟩ := hg.walked
      exact hy ((hG.walk j hj).same hw).2.symm⟩
  · exact ⟨h1, fun hg => by
      obtain ⟨G', X', hG', hX'⟩ := hg.walked
      have := hX' i hi
      rw [← hG.one hG' (S i), hX] at this
      cases this⟩
  · obtain ⟨sp, hth⟩ := hG.there hC hX
    have W := (hth.items hC hP).well
    rcases hp with h | h | h
    · exact absurd ⟨W.rise, W.big⟩ h.2.2.2
    · obtain ⟨i, hi, hs⟩ := h.2.2.2.2
      exact absurd hs (W.free i hi)
    · exact absurd h.1 hx

def RunYes (ba bw n : Nat) (f : Nat → Int) (bt : Nat) (A : Option Addr) (m cap : Nat) (C : Nat → Cl) (L : Nat → Sp) (q : Nat) (S : Nat → Int) (mm : Nat) (Rt : Nat → Int) (rr : Nat) (w : World) (e : Ending) (w' : World) : Prop :=
  ∃ v ad cp, e = .returned (.tuple #[v, .slice ad q cp, .int .i64 0]) ∧ OwnInts w' w.heap.size v ((List.range rr).map fun i => (toM (atT n f m C) L q S mm (Rt i)).getD 0) ∧
    NowR 56 w' ad q w.heap.size w'.heap.size (sts L q (zOf (atT n f m C) S) mm).now ∧ St w' ba bw n (runG (atT n f m C) f L q S mm mm) bt A m cap C ∧ Only bw w w'
def RunNo (L : Nat → Sp) (q n : Nat) (S : Nat → Int) (mm : Nat) (w : World) (e : Ending) (w' : World) : Prop :=
  ∃ x, e = .returned (.tuple #[.slice none 0 0, .slice none 0 0, .int .i64 x]) ∧ (x = 1 ∧ ¬ RunPre L q n S mm ∨ x = 12 ∧ RunPre L q n S mm) ∧ Keeps w w'
def RunOut (ba bw n : Nat) (f : Nat → Int) (bt : Nat) (A : Option Addr) (m cap : Nat) (C : Nat → Cl) (L : Nat → Sp) (q : Nat) (S : Nat → Int) (mm : Nat) (Rt : Nat → Int) (rr : Nat) (w : World) (e : Ending) (w' : World) : Prop :=
  (RunGood n m f C L q S mm Rt rr ∧ RunYes ba bw n f bt A m cap C L q S mm Rt rr w e w') ∨ (¬ RunGood n m f C L q S mm Rt rr ∧ RunNo L q n S mm w e w')
set_option maxRecDepth 100000 in
set_option maxHeartbeats 4000000 in
theorem run_any (ba bw n : Nat) (f : Nat → Int) (bt : Nat) (A : Option Addr) (m cap : Nat) (C : Nat → Cl) (w : World) (h : St w ba bw n f bt A m cap C) (hf : ∀ j, j < n → I64 (f j))
    (D : Option Addr) (q qc : Nat) (L : Nat → Sp) (hL : Rd w D (q * 3) (spF L)) (hI : ∀ i, i < q → InI (L i).t) (hq : q ≤ 20)
    (Sd : Option Addr) (mm sc : Nat) (S : Nat → Int) (hS : Rd w Sd mm (intF .i64 S)) (hSi : ∀ i, i < mm → I64 (S i)) (hmm : mm ≤ 1000) (hSv : Sd = none → mm = 0 ∧ sc = 0) (hSb : ∀ b off, Sd = some ⟨b, off, none⟩ → b ≠ bw)
    (Td : Option Addr) (rr rc : Nat) (Rt : Nat → Int) (hT : Rd w Td rr (intF .i64 Rt)) (hTi : ∀ i, i < rr → I64 (Rt i)) (hrr : rr ≤ 1000) (hTb : ∀ b off, Td = some ⟨b, off, none⟩ → b ≠ bw) :
    Calls Tryz.prog 7 #[.pointer (some ⟨ba, 0, none⟩), .pointer (some ⟨bt, 0, none⟩), .slice D q qc, .slice Sd mm sc, .slice Td rr rc] w (RunOut ba bw n f bt A m cap C L q S mm Rt rr w) := by
  have hC := h.tb.ok
  have hbl := h.ar.lt2
  have HPl := Lib.hid (show ∀ w' rb, Keeps w w' → w.heap.size ≤ rb → BL w' rb 85 (runV ba bt (.slice Sd mm sc) (.slice none 0 0) (.map none)) → Calls Tryz.prog 32 #[.pointer (some ⟨rb, 0, none⟩), .slice D q qc] w' (PlanOut (atT n f m C) L q mm S rb ba bt (.slice Sd mm sc) w') from
    fun w' rb k hb hR => rplan_any ba bw n f bt A m cap C w w' h rb k hb Sd mm sc S hR hS hSi hmm D q qc L hL hI hq)
  have HSt := Lib.hid (show ∀ w', Keeps w w' → St w' ba bw n f bt A m cap C from fun w' k => h.keep k)
  have hle := h.ar.le
  have HSo := Lib.hid (show ∀ w', Keeps w w' → Calls Tryz.prog 25 #[.slice Sd mm sc] w' (SortedOut (∀ i, i + 1 < mm → S i ≤ S (i + 1)) w') from fun w' k => sorted_any Sd mm sc S w' (hS.keep k) (by omega))
  have HCl := Lib.hid (show ∀ w', Keeps w w' → Calls Tryz.prog 27 #[.slice Sd mm sc] w' (clone_any_ mm S w') from fun w' k => clone_stay Sd mm sc S w' (hS.keep k) hSv hmm)
  have HCo := Lib.hid (show ∀ w' v b, OwnInts w' b v ((List.range mm).map S) → Calls Tryz.prog 26 #[v] w' (CompactOut v ((List.range mm).map S) w') from fun w' v b hv => compact_any v _ w' b hv (by simp; omega))
  have HRi := Lib.hid (show ∀ w', Keeps w w' → Calls Tryz.prog 28 #[.slice D q qc] w' fun e w2 => ∃ b : Bool, e = .returned (.bool b) ∧ (b = true ↔ Rise L q) ∧ Keeps w' w2 from fun w' k => rise_any D q qc L w' (hL.keep k) (by omega))
  have HEn := Lib.hid (show ∀ w' pa, Keeps w w' → w'.cell? ⟨pa, 0, none⟩ = some (.pointer (some ⟨ba, 0, none⟩)) → Calls Tryz.prog 29 #[.slice D q qc, .func (.func 30) #[] #[.pointer (some ⟨pa, 0, none⟩)]] w' (Tells (∃ j, j < q ∧ n < (L j).e) w') from
    fun w' pa k hp => has_endf pa D q qc L w' (hL.keep k) (by omega) _ (fun i hi w2 k2 => (end_clos (L i) pa ba bw n f w2 (cell_keep hp k2) (h.keep (Keeps.trans k k2)).ar).mono (fun e w3 hh => ⟨_, hh.1, by simp, hh.2⟩)))
  have HOn := Lib.hid (on_any (some ⟨ba, 0, none⟩) (some ⟨bt, 0, none⟩))
  have hzr := zero_run
  have hzp := zero_prun
  clear h
  go_enter Tryz.func7, Tryz.ntmps7
  go_upto_region 1 with fail
  refine named_code (fun w1 hW1 => ?_)
  have k1 : Keeps w w1 := by rw [hW1]; exact (Touch.refl _ w).alloc _
  have hpa : w1.cell? ⟨w.heap.size, 0, none⟩ = some (.pointer (some ⟨ba, 0, none⟩)) := by rw [hW1]; exact cell_new _ _ _ _ rfl
  clear hW1
  go_cut [13] from 22 to 33 (fun s wx => SaysP (∀ i, i + 1 < mm → S i < S (i + 1)) w1 s wx)
  case first =>
    clear HRi HEn HSt hL hI hS hT hTi
    go_wp2_with fail
    refine Calls.mono (HSo.out _ k1) ?_
    rintro e w2 ⟨b, rfl, hb, k2⟩
    cases b with
    | false =>
      have HB := Lib.hid (show ¬ ∀ i, i + 1 < mm → S i < S (i + 1) from fun hh => by have := hb.2 (fun i hi => by have := hh i hi; omega); cases this)
      clear hb
      go_wp2_with fail
      go_meet
      exact ⟨false, rfl, ⟨fun hh => (by cases hh), fun hh => absurd hh HB.out⟩, k2⟩
    | true =>
      have HB := Lib.hid (hb.1 rfl)
      clear hb
      go_wp2_with fail
      refine Calls.mono (HCl.out _ (Keeps.trans k1 k2)) ?_
      rintro e w3 ⟨v, rfl, hv, k3⟩
      have hlo := hv.lt
      go_wp2_with fail
      refine Calls.mono (HCo.out _ _ _ hv) ?_
      rintro e w4 ⟨ad, k, cp, rfl, hk, k4⟩
      have K4 : Keeps w1 w4 := Touch.trans (Keeps.trans k2 k3) k4 (fun x hx hlt => by have := (hlo x hx).1; have := k2.size; omega)
      have HK := Lib.hid (show k = mm ↔ ∀ i, i + 1 < mm → S i < S (i + 1) from by
        simp only [List.length_map, List.length_range] at hk
        rw [hk]
        refine ⟨fun hh i hi => ?_, fun hh i hi => ?_⟩
        · have h1 := hh i hi
          rw [map_range_getD S mm i (by omega), map_range_getD S mm (i + 1) hi] at h1
          have := HB.out i hi
          omega
        · rw [map_range_getD S mm i (by omega), map_range_getD S mm (i + 1) hi]
          have := hh i hi
          omega)
      clear hk hv hlo
      go_wp2_with fail
      go_meet
      exact ⟨decide (k = mm), congrArg Value.bool (by rw [Bool.eq_iff_iff, decide_eq_true_iff, beq_iff_eq]; omega), by rw [decide_eq_true_iff]; exact HK.out, K4⟩
  case rest =>
  obtain ⟨w2, rfl⟩ : ∃ w2 : World, w2 = wc := ⟨_, rfl⟩
  obtain ⟨b, rfl, hb, k2⟩ := hcut
  have HB := Lib.hid hb
  clear hb HCl HCo HSo
  have K2 := Keeps.trans k1 k2
  have hpa2 := cell_keep hpa k2
  clear hpa
  go_upto_region 2 with fail
  go_cut [44] from 33 to 45 (fun s wx => SaysP (¬ RunPre L q n S mm) w2 s wx)
  case first =>
    clear HSt hL hI hS hT hTi
    go_wp2_with fail
    refine Calls.mono (HRi.out _ K2) ?_
    rintro e w3 ⟨b2, rfl, hb2, k3⟩
    cases b2 with
    | false =>
      have HB2 := Lib.hid (show ¬ Rise L q from fun hh => by have := hb2.2 hh; cases this)
      clear hb2
      go_wp2_with fail
      go_meet
      exact ⟨true, rfl, ⟨fun _ hh => HB2.out hh.rise, fun _ => rfl⟩, k3⟩
    | true =>
      have HB2 := Lib.hid (hb2.1 rfl)
      clear hb2
      cases b with
      | false =>
        have HB3 := Lib.hid (show ¬ ∀ i, i + 1 < mm → S i < S (i + 1) from fun hh => by have := HB.out.2 hh; cases this)
        clear HB
        go_wp2_with fail
        go_meet
        exact ⟨true, rfl, ⟨fun _ hh => HB3.out hh.stay, fun _ => rfl⟩, k3⟩
      | true =>
        have HB3 := Lib.hid (HB.out.1 rfl)
        clear HB
        go_wp2_with fail
        refine Calls.mono (HEn.out _ _ (Keeps.trans K2 k3) (cell_keep hpa2 k3)) ?_
        rintro e w4 ⟨b4, rfl, hb4, k4⟩
        have HB4 := Lib.hid hb4
        clear hb4
        go_wp2_with fail
        go_meet
        exact ⟨b4, rfl, by
          rw [HB4.out]
          refine ⟨fun ⟨j, h1, h2⟩ hh => by have := hh.ends j h1; omega, fun hh => ?_⟩
          apply Classical.byContradiction
          intro hn
          exact hh ⟨HB2.out, fun j hj => by
            apply Classical.byContradiction
            intro h1
            exact hn ⟨j, hj, by omega⟩, HB3.out⟩, Keeps.trans k3 k4⟩
  case rest =>
  obtain ⟨w3, rfl⟩ : ∃ w3 : World, w3 = wc := ⟨_, rfl⟩
  obtain ⟨b2, rfl, hb2, k3⟩ := hcut
  have K3 := Keeps.trans K2 k3
  have hpa3 := cell_keep hpa2 k3
  clear HB HRi HEn hpa2 K2 k3 k2 k1
  cases b2 with
  | true =>
    have HB2 := Lib.hid (hb2.1 rfl)
    clear hb2
    go_wp2_with fail
    go_returns
    exact .inr ⟨fun hh => HB2.out hh.pre, 1, rfl, .inl ⟨rfl, HB2.out⟩, K3⟩
  | false =>
  have HPre := Lib.hid (show RunPre L q n S mm from Classical.byContradiction fun hh => by have := hb2.2 hh; cases this)
  clear hb2
  go_upto_region 4 with fail
  go_cut [14] from 45 to 52 (fun s wx => RunBlk ba bt (.slice Sd mm sc) w3 s wx)
  case first =>
    clear HSt hL hI hS hT hTi HPre
    refine wp_region_noPanic ?_
    refine wp_region_held_drew (S := (fun w' => Keeps w3 w')) (by kernel_rfl) (Touch.refl _ w3).drew (fun hHeld => ?_)
    refine' wpAnyH_take (i := 0) ?hi0_2 ?hs0_2 ?hf0_2 ?hr0_2 ?hQ0_2 ?hy0_2 (by assumption) ?rest0_2
    case hi0_2 => simp only [List.getElem?_toArray, List.getElem?_cons_zero] <;> rfl
    case hs0_2 => kernel_rfl
    case hf0_2 => kernel_rfl
    case hr0_2 => kernel_rfl
    case hQ0_2 => exact fun _ _ _ h => h
    case hy0_2 => exact Or.inl ⟨by rfl, fun w hSw => by have q1 := cell_keep hpa3 hSw; go_simp <;> (try with_reducible rfl)⟩
    simp only [Act.put, List.setIfInBounds_toArray, List.set_cons_zero, List.set_cons_succ]
    refine' wpAnyH_take (i := 1) ?hi1_2 ?hs1_2 ?hf1_2 ?hr1_2 ?hQ1_2 ?hy1_2 (by assumption) ?rest1_2
    case hi1_2 => simp only [List.getElem?_toArray, List.getElem?_cons_succ, List.getElem?_cons_zero] <;> rfl
    case hs1_2 => kernel_rfl
    case hf1_2 => kernel_rfl
    case hr1_2 => kernel_rfl
    case hQ1_2 => exact fun _ _ _ h => h
    case hy1_2 => exact Or.inl ⟨by rfl, fun w hSw => by have q1 := cell_keep hpa3 hSw; go_simp <;> (try with_reducible rfl)⟩
    simp only [Act.put, List.setIfInBounds_toArray, List.set_cons_zero, List.set_cons_succ]
    refine' wpAnyH_take (i := 2) ?hi2_2 ?hs2_2 ?hf2_2 ?hr2_2 ?hQ2_2 ?hy2_2 (by assumption) ?rest2_2
    case hi2_2 => simp only [List.getElem?_toArray, List.getElem?_cons_succ, List.getElem?_cons_zero] <;> rfl
    case hs2_2 => kernel_rfl
    case hf2_2 => kernel_rfl
    case hr2_2 => kernel_rfl
    case hQ2_2 => exact fun _ _ _ h => h
    case hy2_2 => exact Or.inl ⟨by rfl, fun w hSw => by have q1 := cell_keep hpa3 hSw; go_simp <;> (try with_reducible rfl)⟩
    simp only [Act.put, List.setIfInBounds_toArray, List.set_cons_zero, List.set_cons_succ]
    refine' wpAnyH_take (i := 4) ?hi4_2 ?hs4_2 ?hf4_2 ?hr4_2 ?hQ4_2 ?hy4_2 (by assumption) ?rest4_2
    case hi4_2 => simp only [List.getElem?_toArray, List.getElem?_cons_succ, List.getElem?_cons_zero] <;> rfl
    case hs4_2 => kernel_rfl
    case hf4_2 => kernel_rfl
    case hr4_2 => kernel_rfl
    case hQ4_2 => exact fun _ _ _ h => h
    case hy4_2 => exact Or.inl ⟨by rfl, fun w hSw => by have q1 := cell_keep hpa3 hSw; go_simp <;> (try with_reducible rfl)⟩
    simp only [Act.put, List.setIfInBounds_toArray, List.set_cons_zero, List.set_cons_succ]
    refine wpAnyH_ready (rs := [3, 7]) (by kernel_rfl) (by simp) ?_
    refine (AllReadyH.cons rfl (fun K hK => ?_) (AllReadyH.cons rfl (fun K hK => ?_) AllReadyH.nil))
    · go_simp
      with_reducible refine Calls.mono (HOn.out _) ?_
      rintro e w4 ⟨rfl, k4⟩
      go_wp2_with fail
      have hHeld4 := Keeps.trans hHeld k4
      refine hK.out _ _ hHeld4 (fun hHeld => ?_)
      clear hK K
      refine' wpAnyH_take (i := 5) ?hi5_3 ?hs5_3 ?hf5_3 ?hr5_3 ?hQ5_3 ?hy5_3 (by assumption) ?rest5_3
      case hi5_3 => simp only [List.getElem?_toArray, List.getElem?_cons_succ, List.getElem?_cons_zero] <;> rfl
      case hs5_3 => kernel_rfl
      case hf5_3 => kernel_rfl
      case hr5_3 => kernel_rfl
      case hQ5_3 => exact fun _ _ _ h => h
      case hy5_3 => exact Or.inl ⟨by rfl, fun w hSw => by have q1 := cell_keep hpa3 hSw; go_simp <;> (try with_reducible rfl)⟩
      simp only [Act.put, List.setIfInBounds_toArray, List.set_cons_zero, List.set_cons_succ]
      refine wpAnyH_ready (rs := [6, 7]) (by kernel_rfl) (by simp) ?_
      refine (AllReadyH.cons rfl (fun K hK => ?_) (AllReadyH.cons rfl (fun K hK => ?_) AllReadyH.nil))
      · go_simp
        have kb : Keeps w3 ((w4).alloc (.cells (#[.pointer (some ⟨ba, 0, none⟩), .pointer (some ⟨ba, 0, none⟩), .pointer (some ⟨bt, 0, none⟩), .slice Sd mm sc, .slice none 0 0, .map none]) 85)) := Touch.alloc hHeld _
        refine hK.out _ _ kb (fun hHeld => ?_)
        clear hK K
        refine wpAnyH_ready (rs := [7]) (by kernel_rfl) (by simp) ?_
        refine (AllReadyH.cons rfl (fun K hK => ?_) AllReadyH.nil)
        go_simp
        have ka : Keeps w3 ((w4.alloc (.cells (#[.pointer (some ⟨ba, 0, none⟩), .pointer (some ⟨ba, 0, none⟩), .pointer (some ⟨bt, 0, none⟩), .slice Sd mm sc, .slice none 0 0, .map none]) 85)).alloc (.cells #[.pointer none] 82)) := Touch.alloc hHeld _
        refine hK.out _ _ ka (fun hHeld => ?_)
        clear hK K
        refine wpAnyH_ready (rs := [8]) (by kernel_rfl) (by simp) ?_
        refine (AllReadyH.cons rfl (fun K hK => ?_) AllReadyH.nil)
        go_simp
        refine hK.out _ _ ((hHeld4.alloc _).alloc _) (fun hHeld => ?_)
        clear hK K
        refine wpAnyH_done (by kernel_rfl) ?_ _
        refine NoPanic.normal ?_
        go_wp2_with fail
        go_meet
        exact ⟨w4.heap.size + 1, w4.heap.size, rfl, (BL.new1 _ _ _ [.pointer (some ⟨ba, 0, none⟩), .pointer (some ⟨ba, 0, none⟩), .pointer (some ⟨bt, 0, none⟩), .slice Sd mm sc, .slice none 0 0, .map none] _ rfl rfl).alloc _, cell_new _ _ _ _ (by simp), by have := hHeld4.size; omega, by have := hHeld4.size; omega, by omega, hHeld⟩
      · go_simp
        have ka : Keeps w3 ((w4).alloc (.cells #[.pointer none] 82)) := Touch.alloc hHeld _
        refine hK.out _ _ ka (fun hHeld => ?_)
        clear hK K
        refine wpAnyH_ready (rs := [6]) (by kernel_rfl) (by simp) ?_
        refine (AllReadyH.cons rfl (fun K hK => ?_) AllReadyH.nil)
        go_simp
        have kb : Keeps w3 ((w4.alloc (.cells #[.pointer none] 82)).alloc (.cells (#[.pointer (some ⟨ba, 0, none⟩), .pointer (some ⟨ba, 0, none⟩), .pointer (some ⟨bt, 0, none⟩), .slice Sd mm sc, .slice none 0 0, .map none]) 85)) := Touch.alloc hHeld _
        refine hK.out _ _ kb (fun hHeld => ?_)
        clear hK K
        refine wpAnyH_ready (rs := [8]) (by kernel_rfl) (by simp) ?_
        refine (AllReadyH.cons rfl (fun K hK => ?_) AllReadyH.nil)
        go_simp
        refine hK.out _ _ ((hHeld4.alloc _).alloc _) (fun hHeld => ?_)
        clear hK K
        refine wpAnyH_done (by kernel_rfl) ?_ _
        refine NoPanic.normal ?_
        go_wp2_with fail
        go_meet
        exact ⟨w4.heap.size, w4.heap.size + 1, rfl, BL.new1 _ _ _ [.pointer (some ⟨ba, 0, none⟩), .pointer (some ⟨ba, 0, none⟩), .pointer (some ⟨bt, 0, none⟩), .slice Sd mm sc, .slice none 0 0, .map none] _ (by simp) rfl, (BL.alloc (BL.new1 w4 _ _ [.pointer (some ⟨w4.heap.size + 1, 0, none⟩)] _ rfl rfl) _).c 0 _ rfl, by have := hHeld4.size; omega, by have := hHeld4.size; omega, by omega, hHeld⟩
    · go_simp
      have ka : Keeps w3 ((w3.drew).alloc (.cells #[.pointer none] 82)) := Touch.alloc hHeld _
      refine hK.out _ _ ka (fun hHeld => ?_)
      clear hK K
      have hl3 : w3.heap.size < (w3.drew.alloc (.cells #[.pointer none] 82)).heap.size := by simp
      refine wpAnyH_ready (rs := [3]) (by kernel_rfl) (by simp) ?_
      refine (AllReadyH.cons rfl (fun K hK => ?_) AllReadyH.nil)
      go_simp
      with_reducible refine Calls.mono (HOn.out _) ?_
      rintro e w4 ⟨rfl, k4⟩
      go_wp2_with fail
      have hHeld4 := Keeps.trans hHeld k4
      refine hK.out _ _ hHeld4 (fun hHeld => ?_)
      clear hK K
      have hl4 := Nat.lt_of_lt_of_le hl3 k4.size
      have B4 := BL.keep (BL.new1 w3.drew 82 _ [.pointer none] w3.heap.size rfl rfl) k4
      refine' wpAnyH_take (i := 5) ?hi5_4 ?hs5_4 ?hf5_4 ?hr5_4 ?hQ5_4 ?hy5_4 (by assumption) ?rest5_4
      case hi5_4 => simp only [List.getElem?_toArray, List.getElem?_cons_succ, List.getElem?_cons_zero] <;> rfl
      case hs5_4 => kernel_rfl
      case hf5_4 => kernel_rfl
      case hr5_4 => kernel_rfl
      case hQ5_4 => exact fun _ _ _ h => h
      case hy5_4 => exact Or.inl ⟨by rfl, fun w hSw => by have q1 := cell_keep hpa3 hSw; go_simp <;> (try with_reducible rfl)⟩
      simp only [Act.put, List.setIfInBounds_toArray, List.set_cons_zero, List.set_cons_succ]
      refine wpAnyH_ready (rs := [6]) (by kernel_rfl) (by simp) ?_
      refine (AllReadyH.cons rfl (fun K hK => ?_) AllReadyH.nil)
      go_simp
      have kb : Keeps w3 ((w4).alloc (.cells (#[.pointer (some ⟨ba, 0, none⟩), .pointer (some ⟨ba, 0, none⟩), .pointer (some ⟨bt, 0, none⟩), .slice Sd mm sc, .slice none 0 0, .map none]) 85)) := Touch.alloc hHeld _
      refine hK.out _ _ kb (fun hHeld => ?_)
      clear hK K
      have B5 := BL.alloc B4 (.cells (#[.pointer (some ⟨ba, 0, none⟩), .pointer (some ⟨ba, 0, none⟩), .pointer (some ⟨bt, 0, none⟩), .slice Sd mm sc, .slice none 0 0, .map none]) 85)
      have c5 := B5.c 0 _ rfl
      have f5 := B5.fz 0
      refine wpAnyH_ready (rs := [8]) (by kernel_rfl) (by simp) ?_
      refine (AllReadyH.cons rfl (fun K hK => ?_) AllReadyH.nil)
      go_simp
      refine hK.out _ _ ((Touch.setCell hHeld4 (fun hh => absurd hh (Nat.lt_irrefl w3.heap.size)) _).alloc _) (fun hHeld => ?_)
      clear hK K
      refine wpAnyH_done (by kernel_rfl) ?_ _
      refine NoPanic.normal ?_
      go_wp2_with fail
      go_meet
      exact ⟨w3.heap.size, w4.heap.size, rfl, BL.new1 _ _ _ [.pointer (some ⟨ba, 0, none⟩), .pointer (some ⟨ba, 0, none⟩), .pointer (some ⟨bt, 0, none⟩), .slice Sd mm sc, .slice none 0 0, .map none] _ (by simp) rfl, (BL.alloc (BL.set B4 0 (.pointer (some ⟨w4.heap.size, 0, none⟩))) _).c 0 _ rfl, by have := hHeld4.size; omega, by have := hHeld4.size; omega, by omega, hHeld⟩

  case rest =>
  obtain ⟨w4, rfl⟩ : ∃ w4 : World, w4 = wc := ⟨_, rfl⟩
  obtain ⟨pr, rb, rfl, hR4, hpr4, hrb, hpr, hne, k4⟩ := hcut
  have z3 := K3.size
  have K4 := Keeps.trans K3 k4
  have hR4' := hR4
  have HP := HPl.out w4 rb K4 (by omega) hR4
  clear HPl hR4' k4
  go_wp2_with fail
  refine Calls.mono HP ?_
  clear HP
  rintro e w5 (⟨G, X, sz, mb, cnt, ad, cp, rfl, hG, hX, hW, hsz, hR5, hM5, hmb, hnow, o5⟩ | ⟨x, rfl, hx, o5, hwhy⟩)
  · obtain ⟨sp, hth⟩ := hG.there hC hX
    have HTh := Lib.hid hth
    have HWk := Lib.hid (show ∃ G X, Walked (atT n f m C) L q G X ∧ ∀ i, i < mm → X (S i) = true from ⟨G, X, hG, hX⟩)
    have hpr5 := cell_only hpr4 o5 (by show pr ≠ rb; omega)
    have K5 : Keeps w w5 := K4.new o5 (by omega)
    clear hG hX hth hR4 hpr4
    have hM5' : MapIs w5 mb (toM (atT n f m C) L q S mm) cnt := hM5
    clear hM5
    have HLo := Lib.hid (show ∀ w', Keeps w5 w' → Calls Tryz.prog 33 #[.slice Sd mm sc, .func (.func 34) #[.pointer (some ⟨rb, 0, none⟩)] #[]] w' (Tells (∃ j, j < mm ∧ ∃ i : Nat, (i : Int) < (objP (atT n f m C (S j))).1.refs ∧ toM (atT n f m C) L q S mm (f (refAt (S j) i).toNat) = none) w') from
      fun w' k => has_lostf rb Sd mm sc S w' (hS.keep (Keeps.trans K5 k)) (by omega) _ (fun i hi w2 k2 => lost_any ba bw n f bt A m cap C w2 (HSt.out w2 (Keeps.trans K5 (Keeps.trans k k2))) hf rb mb _ _ (hR5.keep (Keeps.trans k k2)) _ _ (hM5'.keep (Keeps.trans k k2)) (S i) (by rw [objP_obj (HTh.out.obj i hi).1 (HTh.out.obj i hi).2]; exact (HTh.out.obj i hi).1)))
    have HRo := Lib.hid (show ∀ w', Keeps w5 w' → Calls Tryz.prog 33 #[.slice Td rr rc, .func (.func 35) #[] #[.pointer (some ⟨pr, 0, none⟩)]] w' (Tells (∃ j, j < rr ∧ toM (atT n f m C) L q S mm (Rt j) = none) w') from
      fun w' k => has_rootf pr Td rr rc Rt w' (hT.keep (Keeps.trans K5 k)) (by omega) _ (fun i hi w2 k2 => (root_clos pr rb mb _ _ (Rt i) w2 (cell_keep hpr5 (Keeps.trans k k2)) ((hR5.keep (Keeps.trans k k2)).c 5 _ rfl) (hM5'.keep (Keeps.trans k k2)) (hTi i hi)).mono (fun e w3 hh => ⟨_, hh.1, by rw [Option.isNone_iff_eq_none], by rw [hh.2]; exact Touch.refl _ _⟩)))
    have hR5x := hR5
    unfold runL at hR5
    go_upto_region 8 with fail
    go_cut [69] from 61 to 70 (fun s wx => SaysP ((∃ j, j < mm ∧ ∃ i : Nat, (i : Int) < (objP (atT n f m C (S j))).1.refs ∧ toM (atT n f m C) L q S mm (f (refAt (S j) i).toNat) = none) ∨ ∃ j, j < rr ∧ toM (atT n f m C) L q S mm (Rt j) = none) w5 s wx)
    case first =>
      clear hR5 hR5x HSt HTh HWk hnow hsz hM5'
      go_wp2_with fail
      refine Calls.mono (HLo.out _ (Touch.refl _ w5)) ?_
      rintro e w6 ⟨b6, rfl, hb6, k6⟩
      cases b6 with
      | true =>
        have HB6 := Lib.hid (hb6.1 rfl)
        clear hb6
        go_wp2_with fail
        go_meet
        exact ⟨true, rfl, ⟨fun _ => .inl HB6.out, fun _ => rfl⟩, k6⟩
      | false =>
        have HB6 := Lib.hid (mt hb6.2 (by decide))
        clear hb6
        go_wp2_with fail
        refine Calls.mono (HRo.out _ k6) ?_
        rintro e w7 ⟨b7, rfl, hb7, k7⟩
        have HB7 := Lib.hid hb7
        clear hb7
        go_wp2_with fail
        go_meet
        exact ⟨b7, rfl, by rw [HB7.out]; exact ⟨fun h => .inr h, fun h => h.elim (fun h => absurd h HB6.out) id⟩, Keeps.trans k6 k7⟩
    case rest =>
    obtain ⟨w6, rfl⟩ : ∃ w6 : World, w6 = wc := ⟨_, rfl⟩
    obtain ⟨b6, rfl, hb6, k6⟩ := hcut
    clear HLo HRo
    cases b6 with
    | true =>
      have HB6 := Lib.hid (hb6.1 rfl)
      clear hb6
      go_wp2_with fail
      go_returns
      refine .inr ⟨fun hh => ?_, 12, rfl, .inr ⟨rfl, HPre.out⟩, Keeps.trans K5 k6⟩
      rcases HB6.out with ⟨j, hj, i, hi, h0⟩ | ⟨j, hj, h0⟩
      · exact hh.refs j hj i hi h0
      · exact hh.roots j hj h0
    | false =>
    have HGd := Lib.hid (show RunGood n m f C L q S mm Rt rr from ⟨HPre.out, HWk.out, fun i hi r hr h0 => mt hb6.2 (by decide) (.inl ⟨i, hi, r, hr, h0⟩), fun i hi h0 => mt hb6.2 (by decide) (.inr ⟨i, hi, h0⟩)⟩)
    clear hb6 HWk
    have K6 := Keeps.trans K5 k6
    have hR6 := hR5x.keep k6
    have hM6 := hM5'.keep k6
    have hsz6 := hsz.touch k6 (fun _ _ h => h)
    have hnow6 := (hnow.touch k6 (fun _ _ _ h => h)).widen k6.size
    have hpr6 := cell_keep hpr5 k6
    have hS6 := HSt.out w6 K6
    have hl6 := hsz6.lt
    have hm6 := hM6.lt
    have hr6 := hR6.lt
    have z6 := K6.size
    have zz := K4.size
    clear hR5 hR5x hM5' hsz hnow hpr5 HSt k6 o5
    obtain ⟨adz, cpz, hv⟩ := hsz6.form
    rw [zsOf_len] at hv
    subst hv
    have hzr6 : Rd w6 adz mm (intF .i64 (zOf (atT n f m C) S)) := by
      have hh := hsz6
      have : OwnInts w6 w4.heap.size (.slice adz (zsOf (zOf (atT n f m C) S) mm).length cpz) (zsOf (zOf (atT n f m C) S) mm) := by rw [zsOf_len]; exact hh
      have := this.rd.1
      rw [zsOf_len] at this
      exact this.congr (fun i hi => by show Value.int _ ((zsOf (zOf (atT n f m C) S) mm).getD i 0) = Value.int _ (zOf (atT n f m C) S i); rw [zsOf_get _ _ _ hi])
    have hzb : ∀ b off, adz = some ⟨b, off, none⟩ → w4.heap.size ≤ b := fun b off e => (hl6 b (by rw [e]; rfl)).1
    have HMv := Lib.hid (show ∀ w' (j : Nat), j < mm → St w' ba bw n (runG (atT n f m C) f L q S mm j) bt A m cap C → BL w' rb 85 (runL ba bt mb (.slice Sd mm sc) (.slice adz mm cpz)) → MapIs w' mb (toM (atT n f m C) L q S mm) cnt → Calls Tryz.prog 37 #[.pointer (some ⟨rb, 0, none⟩), .int .i64 (S j), .int .i64 (zOf (atT n f m C) S j)] w' (Moved fun w2 => St w2 ba bw n (runG (atT n f m C) f L q S mm (j + 1)) bt A m cap C ∧ Only bw w' w2) from
      fun w' j hj hS hR hM => by
        obtain ⟨e1, e2⟩ := HTh.out.next hC HPre.out hj
        obtain ⟨p0, k0, pn, an⟩ := HTh.out.fits hC HPre.out hj
        obtain ⟨o1, o2⟩ := HTh.out.obj j hj
        have h1 := (at_ok hC o1).1
        have hob := objP_obj o1 o2
        have hbd := obj_ok hC (f := f) (n := n) (a := S j) (by rw [hob]; exact o1)
        have hh := rmove_any ba bw n (runG (atT n f m C) f L q S mm j) bt A m cap C w' hS rb mb _ _ hR (by omega) (by omega) _ _ hM (S j) (dP (atT n f m C) L q S mm j) (zOf (atT n f m C) S j) (by rw [e1, hob]; exact o1) (fun i hi => by
          rw [e1] at hi
          rw [e2 _ (by unfold refAt; omega)]
          exact hf _ (by unfold refAt; omega)) (toM_at HPre.out hj) p0 k0 pn an
        rw [e1] at hh
        exact hh)
    clear hf
    generalize hTT : atT n f m C = T at *
    have HTT := Lib.hid hTT
    clear hTT
    unfold runL at hR6
    go_wp2_with fail
    go_loopw [72] (fun i wr => ∃ j : Nat, j ≤ mm ∧ i = .int .i64 j ∧ St wr ba bw n (runG T f L q S mm j) bt A m cap C ∧ Only bw w6 wr) (fun i _ => mm - (intOf i).toNat)
    case atStart => exact ⟨0, by omega, rfl, hS6, Only.refl _ _⟩
    case round =>
      obtain ⟨wo, rfl⟩ : ∃ wo : World, wo = wr := ⟨_, rfl⟩
      obtain ⟨j, hj, rfl, hSo, oo⟩ := hrel
      have hRo := hR6.touch oo (by omega)
      have hMo := hM6.touch oo (by omega)
      have zo := oo.size
      by_cases hlt : j < mm
      · obtain ⟨b, off, rfl, d0⟩ := ((hS.keep K6).keepS oo hSb).one hlt
        have d1 : wo.cell? ⟨b, off + j, none⟩ = some (.int .i64 (S j)) := d0
        obtain ⟨b2, off2, rfl, d2⟩ := (hzr6.keepS oo (fun b off e => by have := hzb b off e; omega)).one hlt
        have e3 : wo.cell? ⟨b2, off2 + j, none⟩ = some (.int .i64 (zOf T S j)) := d2
        have hb2 := hzb b2 off2 rfl
        have e1 := cell_only hpr6 oo (by show pr ≠ bw; omega)
        have e2 := hRo.c 4 _ rfl
        clear d0 d2
        go_wp2_with fail
        refine wp_region_noPanic ?_
        refine wp_region_held_drew (S := (fun w' => Only bw wo w')) (by kernel_rfl) (Only.refl _ wo).drew (fun hHeld => ?_)
        refine' wpAnyH_take (i := 0) ?hi0_1 ?hs0_1 ?hf0_1 ?hr0_1 ?hQ0_1 ?hy0_1 (by assumption) ?rest0_1
        case hi0_1 => simp only [List.getElem?_toArray, List.getElem?_cons_zero] <;> rfl
        case hs0_1 => kernel_rfl
        case hf0_1 => kernel_rfl
        case hr0_1 => kernel_rfl
        case hQ0_1 => exact fun _ _ _ h => h
        case hy0_1 => exact Or.inl ⟨by rfl, fun w hSw => by have q1 := cell_only e1 hSw (by show pr ≠ bw; omega); have q2 := cell_only e2 hSw (by show rb ≠ bw; omega); have q3 := cell_only e3 hSw (by show b2 ≠ bw; omega); go_simp <;> (try with_reducible rfl)⟩
        simp only [Act.put, List.setIfInBounds_toArray, List.set_cons_zero, List.set_cons_succ]
        refine' wpAnyH_take (i := 1) ?hi1_1 ?hs1_1 ?hf1_1 ?hr1_1 ?hQ1_1 ?hy1_1 (by assumption) ?rest1_1
        case hi1_1 => simp only [List.getElem?_toArray, List.getElem?_cons_succ, List.getElem?_cons_zero] <;> rfl
        case hs1_1 => kernel_rfl
        case hf1_1 => kernel_rfl
        case hr1_1 => kernel_rfl
        case hQ1_1 => exact fun _ _ _ h => h
        case hy1_1 => exact Or.inl ⟨by rfl, fun w hSw => by have q1 := cell_only e1 hSw (by show pr ≠ bw; omega); have q2 := cell_only e2 hSw (by show rb ≠ bw; omega); have q3 := cell_only e3 hSw (by show b2 ≠ bw; omega); go_simp <;> (try with_reducible rfl)⟩
        simp only [Act.put, List.setIfInBounds_toArray, List.set_cons_zero, List.set_cons_succ]
        refine' wpAnyH_take (i := 2) ?hi2_1 ?hs2_1 ?hf2_1 ?hr2_1 ?hQ2_1 ?hy2_1 (by assumption) ?rest2_1
        case hi2_1 => simp only [List.getElem?_toArray, List.getElem?_cons_succ, List.getElem?_cons_zero] <;> rfl
        case hs2_1 => kernel_rfl
        case hf2_1 => kernel_rfl
        case hr2_1 => kernel_rfl
        case hQ2_1 => exact fun _ _ _ h => h
        case hy2_1 => exact Or.inl ⟨by rfl, fun w hSw => by have q1 := cell_only e1 hSw (by show pr ≠ bw; omega); have q2 := cell_only e2 hSw (by show rb ≠ bw; omega); have q3 := cell_only e3 hSw (by show b2 ≠ bw; omega); go_simp <;> (try with_reducible rfl)⟩
        simp only [Act.put, List.setIfInBounds_toArray, List.set_cons_zero, List.set_cons_succ]
        refine' wpAnyH_take (i := 3) ?hi3_1 ?hs3_1 ?hf3_1 ?hr3_1 ?hQ3_1 ?hy3_1 (by assumption) ?rest3_1
        case hi3_1 => simp only [List.getElem?_toArray, List.getElem?_cons_succ, List.getElem?_cons_zero] <;> rfl
        case hs3_1 => kernel_rfl
        case hf3_1 => kernel_rfl
        case hr3_1 => kernel_rfl
        case hQ3_1 => exact fun _ _ _ h => h
        case hy3_1 => exact Or.inl ⟨by rfl, fun w hSw => by have q1 := cell_only e1 hSw (by show pr ≠ bw; omega); have q2 := cell_only e2 hSw (by show rb ≠ bw; omega); have q3 := cell_only e3 hSw (by show b2 ≠ bw; omega); go_simp <;> (try with_reducible rfl)⟩
        simp only [Act.put, List.setIfInBounds_toArray, List.set_cons_zero, List.set_cons_succ]
        refine' wpAnyH_take (i := 4) ?hi4_1 ?hs4_1 ?hf4_1 ?hr4_1 ?hQ4_1 ?hy4_1 (by assumption) ?rest4_1
        case hi4_1 => simp only [List.getElem?_toArray, List.getElem?_cons_succ, List.getElem?_cons_zero] <;> rfl
        case hs4_1 => kernel_rfl
        case hf4_1 => kernel_rfl
        case hr4_1 => kernel_rfl
        case hQ4_1 => exact fun _ _ _ h => h
        case hy4_1 => exact Or.inl ⟨by rfl, fun w hSw => by have q1 := cell_only e1 hSw (by show pr ≠ bw; omega); have q2 := cell_only e2 hSw (by show rb ≠ bw; omega); have q3 := cell_only e3 hSw (by show b2 ≠ bw; omega); go_simp <;> (try with_reducible rfl)⟩
        simp only [Act.put, List.setIfInBounds_toArray, List.set_cons_zero, List.set_cons_succ]
        refine' wpAnyH_take (i := 5) ?hi5_1 ?hs5_1 ?hf5_1 ?hr5_1 ?hQ5_1 ?hy5_1 (by assumption) ?rest5_1
        case hi5_1 => simp only [List.getElem?_toArray, List.getElem?_cons_succ, List.getElem?_cons_zero] <;> rfl
        case hs5_1 => kernel_rfl
        case hf5_1 => kernel_rfl
        case hr5_1 => kernel_rfl
        case hQ5_1 => exact fun _ _ _ h => h
        case hy5_1 => exact Or.inl ⟨by rfl, fun w hSw => by have q1 := cell_only e1 hSw (by show pr ≠ bw; omega); have q2 := cell_only e2 hSw (by show rb ≠ bw; omega); have q3 := cell_only e3 hSw (by show b2 ≠ bw; omega); go_simp <;> (try with_reducible rfl)⟩
        simp only [Act.put, List.setIfInBounds_toArray, List.set_cons_zero, List.set_cons_succ]
        refine' wpAnyH_take (i := 6) ?hi6_1 ?hs6_1 ?hf6_1 ?hr6_1 ?hQ6_1 ?hy6_1 (by assumption) ?rest6_1
        case hi6_1 => simp only [List.getElem?_toArray, List.getElem?_cons_succ, List.getElem?_cons_zero] <;> rfl
        case hs6_1 => kernel_rfl
        case hf6_1 => kernel_rfl
        case hr6_1 => kernel_rfl
        case hQ6_1 => exact fun _ _ _ h => h
        case hy6_1 => exact Or.inl ⟨by rfl, fun w hSw => by have q1 := cell_only e1 hSw (by show pr ≠ bw; omega); have q2 := cell_only e2 hSw (by show rb ≠ bw; omega); have q3 := cell_only e3 hSw (by show b2 ≠ bw; omega); go_simp <;> (try with_reducible rfl)⟩
        simp only [Act.put, List.setIfInBounds_toArray, List.set_cons_zero, List.set_cons_succ]
        refine' wpAnyH_take (i := 7) ?hi7_1 ?hs7_1 ?hf7_1 ?hr7_1 ?hQ7_1 ?hy7_1 (by assumption) ?rest7_1
        case hi7_1 => simp only [List.getElem?_toArray, List.getElem?_cons_succ, List.getElem?_cons_zero] <;> rfl
        case hs7_1 => kernel_rfl
        case hf7_1 => kernel_rfl
        case hr7_1 => kernel_rfl
        case hQ7_1 => exact fun _ _ _ h => h
        case hy7_1 => exact Or.inl ⟨by rfl, fun w hSw => by have q1 := cell_only e1 hSw (by show pr ≠ bw; omega); have q2 := cell_only e2 hSw (by show rb ≠ bw; omega); have q3 := cell_only e3 hSw (by show b2 ≠ bw; omega); go_simp <;> (try with_reducible rfl)⟩
        simp only [Act.put, List.setIfInBounds_toArray, List.set_cons_zero, List.set_cons_succ]
        refine' wpAnyH_take (i := 8) ?hi8_1 ?hs8_1 ?hf8_1 ?hr8_1 ?hQ8_1 ?hy8_1 (by assumption) ?rest8_1
        case hi8_1 => simp only [List.getElem?_toArray, List.getElem?_cons_succ, List.getElem?_cons_zero] <;> rfl
        case hs8_1 => kernel_rfl
        case hf8_1 => kernel_rfl
        case hr8_1 => kernel_rfl
        case hQ8_1 => exact fun _ _ _ h => h
        case hy8_1 => exact Or.inl ⟨by rfl, fun w hSw => by have q1 := cell_only e1 hSw (by show pr ≠ bw; omega); have q2 := cell_only e2 hSw (by show rb ≠ bw; omega); have q3 := cell_only e3 hSw (by show b2 ≠ bw; omega); go_simp <;> (try with_reducible rfl)⟩
        simp only [Act.put, List.setIfInBounds_toArray, List.set_cons_zero, List.set_cons_succ]
        refine wpAnyH_ready (rs := [9]) (by kernel_rfl) (by simp) ?_
        refine AllReadyH.cons rfl (fun K hK => ?_) AllReadyH.nil
        go_simp
        with_reducible refine Calls.mono (HMv.out _ j hlt (hSo.keep (Touch.drew (Touch.refl (fun _ => False) wo))) (BL.keep hRo (Touch.drew (Touch.refl (fun _ => False) wo))) (hMo.keep (Touch.drew (Touch.refl (fun _ => False) wo)))) ?_
        rintro e w9 ⟨⟨v9, rfl⟩, hS9, o9⟩
        go_wp2_with fail
        refine hK.out _ _ (hHeld.trans_ o9) (fun hHeld => ?_)
        clear hK K
        refine wpAnyH_done (by kernel_rfl) ?_ _
        refine NoPanic.normal ?_
        go_wp2_with fail
        go_roundw
        case rel => exact ⟨j + 1, by omega, by go_num, hS9, Only.trans_ oo hHeld⟩
        case measure => simp [intOf]; omega
      · obtain rfl : j = mm := by omega
        have e1 := cell_only hpr6 oo (by show pr ≠ bw; omega)
        go_wp2_with fail
        go_loopw [19, 90] (fun v i wr => ∃ p : Nat, p ≤ rr ∧ i = .int .i64 p ∧ OwnInts wr wo.heap.size v ((List.range p).map fun i => (toM T L q S j (Rt i)).getD 0) ∧ Keeps wo wr) (fun _ i _ => rr - (intOf i).toNat)
        case atStart => exact ⟨0, by omega, rfl, OwnInts.nil_ _ _, Touch.refl _ _⟩
        case round =>
          obtain ⟨wi, rfl⟩ : ∃ wi : World, wi = wr := ⟨_, rfl⟩
          obtain ⟨p, hp, rfl, hown, ki⟩ := hrel
          have hRi := hRo.keep ki
          have hMi := hMo.keep ki
          have zi := ki.size
          have e1 := cell_keep e1 ki
          have e5 := hRi.c 5 _ rfl
          by_cases hlt : p < rr
          · obtain ⟨b, off, rfl, d0⟩ := (((hT.keep K6).keepS oo hTb).keep ki).one hlt
            have d1 : wi.cell? ⟨b, off + p, none⟩ = some (.int .i64 (Rt p)) := d0
            have hlook := hMi.look (hTi p hlt)
            have HLn := Lib.hid (show ((List.range p).map fun i => (toM T L q S j (Rt i)).getD 0).length = p by simp)
            have HSn := Lib.hid (show ((List.range (p + 1)).map fun i => (toM T L q S j (Rt i)).getD 0) = ((List.range p).map fun i => (toM T L q S j (Rt i)).getD 0) ++ [(toM T L q S j (Rt p)).getD 0] by rw [List.range_succ, List.map_append]; rfl)
            clear d0
            generalize (toM T L q S j (Rt p)).getD 0 = y at *
            generalize ((List.range p).map fun i => (toM T L q S j (Rt i)).getD 0) = acc at *
            go_wp2_with (at_builtin; refine app_int ?_ (.tmp 94) (.tmp 101) ?_ wo.heap.size u19 acc (hown.alloc _) ?_ wi.heap.size y ?_ (cell_new _ _ _ _ rfl) (by rw [HLn.out]; omega) (by simp; omega) ?_; rfl; rfl; rfl; rfl; intro v' w' hown' hgr hbl; obtain ⟨ad', cp', hv⟩ := hown'.form; simp only [List.length_append, List.length_cons, List.length_nil, Nat.zero_add, HLn.out] at hv; subst hv; have hlo := hown.lt; have K7 := Keeps.grown (Touch.alloc ki (.cells #[.int .i64 y] 3)) hgr (fun k e => (hlo k e).1); clear hgr hbl hlo)
            go_roundw
            case rel => exact ⟨p + 1, by omega, by go_num, by rw [HSn.out]; exact hown', K7⟩
            case measure => simp [intOf]; omega
          · obtain rfl : p = rr := by omega
            go_wp2_with fail
            go_returns
            have hTT := HTT.out
            subst hTT
            exact .inl ⟨HGd.out, _, ad, cp, rfl, hown.mono (by omega), ((hnow6.touch oo (fun g h1 h2 h => by omega)).touch ki (fun _ _ _ h => h)).widen (by omega) |>.lower (by omega), hSo.keep ki, Touch.keep (Touch.trans (Touch.only K6) oo (fun _ h _ => h)) ki⟩
  · obtain ⟨rfl, hng⟩ := plan_bad hC HPre.out (Rt := Rt) (rr := rr) hx hwhy
    have HNG := Lib.hid hng
    clear hng hwhy
    go_wp2_with fail
    go_returns
    exact .inr ⟨HNG.out, 12, rfl, .inr ⟨rfl, HPre.out⟩, K4.new o5 (by omega)⟩

end Go.Proofs.YtkjgfblkbjlohaaGreat
