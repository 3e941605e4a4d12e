/- Layer 15, the document's: Reach. -/
import Derived.Test.YtkjgfblkbjlohaaGreatG26
set_option linter.all false

namespace Go.Proofs.YtkjgfblkbjlohaaGreat
open Go.RowKit

/-- What is reached from some. -/
inductive Rch (n : Nat) (W : Nat → Int) (m : Nat) (C : Nat → Cl) (P : Int → Prop) : Int → Prop
  | root {x : Int} : P x → x ≠ 0 → Rch n W m C P x
  | step {a x : Int} : Rch n W m C P a → x ∈ refsOf W a (objP (atT n W m C a)).1.refs.toNat → x ≠ 0 → Rch n W m C P x
/-- A list whose addresses are objects, and which has what they refer to. -/
structure Univ (n : Nat) (W : Nat → Int) (m : Nat) (C : Nat → Cl) (U : List Int) : Prop where
  obj : ∀ a, a ∈ U → (objP (atT n W m C a)).2 = 0
  ref : ∀ a, a ∈ U → ∀ x, x ∈ refsOf W a (objP (atT n W m C a)).1.refs.toNat → x = 0 ∨ x ∈ U
  len : U.length ≤ 100
structure RI (n : Nat) (W : Nat → Int) (m : Nat) (C : Nat → Cl) (U : List Int) (P : Int → Prop) (out : List Int) : Prop where
  nd : out.Nodup
  inn : ∀ x, x ∈ out → x ∈ U ∧ x ≠ 0 ∧ Rch n W m C P x
theorem nodup_len : ∀ (l U : List Int), l.Nodup → (∀ x, x ∈ l → x ∈ U) → l.length ≤ U.length
  | [], _, _, _ => Nat.zero_le _
  | x :: l, U, h, hs => by
    obtain ⟨h1, h2⟩ := List.nodup_cons.1 h
    have hx := hs x (List.mem_cons_self ..)
    have := nodup_len l (U.erase x) h2 (fun y hy => by
      have hne : y ≠ x := fun e => h1 (by rw [← e]; exact hy)
      rw [List.mem_erase_of_ne hne]
      exact hs y (List.mem_cons_of_mem _ hy))
    rw [List.length_erase_of_mem hx] at this
    have hp := List.length_pos_of_mem hx
    simp only [List.length_cons]
    omega
theorem RI.app {n : Nat} {W : Nat → Int} {m : Nat} {C : Nat → Cl} {U : List Int} {P : Int → Prop} {out : List Int} (h : RI n W m C U P out) {x : Int} (h1 : x ∈ U) (h0 : x ≠ 0) (hr : Rch n W m C P x) (hn : x ∉ out) : RI n W m C U P (out ++ [x]) := by
  refine ⟨List.nodup_append.2 ⟨h.nd, by simp, fun a ha b hb e => ?_⟩, fun y hy => ?_⟩
  · simp at hb; subst hb; subst e; exact hn ha
  · rcases List.mem_append.1 hy with hy | hy
    · exact h.inn y hy
    · simp at hy; subst hy; exact ⟨h1, h0, hr⟩
def ReachOut (n : Nat) (W : Nat → Int) (m : Nat) (C : Nat → Cl) (U : List Int) (P : Int → Prop) (w : World) (e : Ending) (w' : World) : Prop :=
  ∃ v out, e = .returned v ∧ OwnInts w' w.heap.size v out ∧ RI n W m C U P out ∧ (∀ x, P x → x ≠ 0 → x ∈ out) ∧ (∀ a, a ∈ out → ∀ x, x ∈ refsOf W a (objP (atT n W m C a)).1.refs.toNat → x ≠ 0 → x ∈ out) ∧ Keeps w w'
set_option maxRecDepth 100000 in
set_option maxHeartbeats 4000000 in
theorem reach_any (pa n : Nat) (W : Nat → Int) (wad : Option Addr) (wcp : Nat) (A : Option Addr) (m cap : Nat) (C : Nat → Cl) (w : World) (h : RSt w pa n W wad wcp A m C) (U : List Int) (hU : Univ n W m C U)
    (ad : Option Addr) (fl fc : Nat) (fr : Nat → Int) (hfr : Rd w ad fl (intF .i64 fr)) (hfl : fl ≤ 1000) (hin : ∀ j, j < fl → fr j = 0 ∨ fr j ∈ U) :
    Calls Tryz.prog 23 #[rstV pa A m cap, .slice ad fl fc] w (ReachOut n W m C U (fun x => ∃ j, j < fl ∧ fr j = x) w) := by
  have HAt := Lib.hid (show ∀ w', Keeps w w' → ∀ a, a ∈ U → Calls Tryz.prog 65 #[rstV pa A m cap, .int .i64 a] w' (AtOut W a (objP (atT n W m C a)).1 w') from fun w' k a ha => rat_any pa n W wad wcp A m cap C w' (h.keep k) a (hU.obj a ha))
  have HU := Lib.hid hU
  have HRl := Lib.hid (show ∀ a, a ∈ U → (refsOf W a (objP (atT n W m C a)).1.refs.toNat).length ≤ 60 from fun a ha => by
    have := obj_ok h.ok (hU.obj a ha)
    unfold refsOf
    rw [List.length_map, List.length_range]
    omega)
  have HI := Lib.hid hin
  have HPl := Lib.hid rplace_any
  have HLen := Lib.hid (show ∀ out : List Int, RI n W m C U (fun x => ∃ j, j < fl ∧ fr j = x) out → out.length ≤ 100 from fun out hh => Nat.le_trans (nodup_len out U hh.nd (fun x hx => (hh.inn x hx).1)) hU.len)
  clear h hU hin
  unfold rstV at *
  go_enter Tryz.func23, Tryz.ntmps23
  go_upto_region 1 with fail
  refine named_code (fun w1 hW1 => ?_)
  have K1 : Keeps w w1 := by rw [hW1]; exact (Touch.refl _ w).alloc _
  have BS : BL w1 w.heap.size 42 [.pointer (some ⟨pa, 0, none⟩), .slice A m cap] := by rw [hW1]; exact BL.new1 _ _ _ [.pointer (some ⟨pa, 0, none⟩), .slice A m cap] _ rfl rfl
  have z1 : w1.heap.size = w.heap.size + 1 := by rw [hW1]; simp
  clear hW1
  go_wp2_with fail
  go_loopw [5, 12] (fun v i wr => ∃ (k : Nat) (out : List Int), k ≤ fl ∧ i = .int .i64 k ∧ OwnInts wr (w.heap.size + 1) v out ∧ RI n W m C U (fun x => ∃ j, j < fl ∧ fr j = x) out ∧ (∀ j, j < k → fr j ≠ 0 → fr j ∈ out) ∧ BL wr w.heap.size 42 [.pointer (some ⟨pa, 0, none⟩), .slice A m cap] ∧ Keeps w wr ∧ w.heap.size < wr.heap.size) (fun _ i _ => fl - (intOf i).toNat)
  case atStart => exact ⟨0, [], by omega, rfl, OwnInts.nil_ _ _, ⟨List.nodup_nil, fun x hx => (by cases hx)⟩, fun j hj => by omega, BS, K1, by omega⟩
  case round =>
    obtain ⟨wo, rfl⟩ : ∃ wo : World, wo = wr := ⟨_, rfl⟩
    obtain ⟨k, out, hk, rfl, hown, hri, hall, hB, K, zo⟩ := hrel
    have HO := Lib.hid hown
    have HR := Lib.hid hri
    have HA := Lib.hid hall
    have hlen := HLen.out out hri
    clear hri hall BS
    by_cases hlt : k < fl
    · obtain ⟨b, off, rfl, d0⟩ := (hfr.keep K).one hlt
      have d1 : wo.cell? ⟨b, off + k, none⟩ = some (.int .i64 (fr k)) := d0
      have HX := Lib.hid (show fr k ≠ 0 → fr k ∈ U ∧ Rch n W m C (fun x => ∃ j, j < fl ∧ fr j = x) (fr k) from fun h0 => ⟨(HI.out k hlt).resolve_left h0, .root ⟨k, hlt, rfl⟩ h0⟩)
      have HA2 := Lib.hid (show ∀ out' : List Int, (∀ x, x ∈ out → x ∈ out') → (fr k ≠ 0 → fr k ∈ out') → ∀ j, j < k + 1 → fr j ≠ 0 → fr j ∈ out' from fun out' h1 h2 j hj h0 => by
        rcases (by omega : j < k ∨ j = k) with h | rfl
        · exact h1 _ (HA.out j h h0)
        · exact h2 h0)
      clear d0 HA
      generalize fr k = x at *
      by_cases hx : x = 0
      · subst hx
        clear hown
        go_wp2_with fail
        go_roundw
        case rel => exact ⟨k + 1, out, by omega, by go_num, HO.out, HR.out, HA2.out out (fun x hx => hx) (fun h0 => absurd rfl h0), hB, K, zo⟩
        case measure => simp [intOf]; omega
      · obtain ⟨ado, co, hv⟩ := hown.form
        subst hv
        obtain ⟨hrd, _⟩ := hown.rd
        have hxb : (x != 0) = true := by simpa using hx
        have HX0 := Lib.hid (HX.out hx)
        clear hown HX hx
        go_wp2_with fail
        refine Calls.mono (HPl.out ado out _ co x _ rfl hrd (by omega)) ?_
        rintro e w2 ⟨⟨i, rfl, hi⟩, rfl⟩
        have HPi := Lib.hid hi
        clear hi hrd
        by_cases hneg : i < 0
        · have HN := Lib.hid (HPi.out.1 hneg)
          clear HPi
          go_wp2_with (at_builtin; refine app_int ?_ (.tmp 29) (.tmp 34) ?_ (w.heap.size + 1) (.slice ado out.length co) out (HO.out.alloc _) ?_ wo.heap.size x ?_ (cell_new _ _ _ _ rfl) (by omega) (by simp; omega) ?_; rfl; rfl; rfl; rfl; intro v' w' hown' hgr hbl; have hlo := HO.out.lt; have K7 := Keeps.grown (Touch.alloc K (.cells #[.int .i64 x] 3)) hgr (fun k e => by have := (hlo k e).1; omega); have B7 := BL.grown (BL.alloc hB (.cells #[.int .i64 x] 3)) hgr (fun e => by have := (hlo _ e).1; omega); have z7 := hgr.size; simp only [World.size_alloc] at z7; have HO7 := Lib.hid hown'; clear hgr hbl hlo hown')
          go_roundw
          case rel => exact ⟨k + 1, out ++ [x], by omega, by go_num, HO7.out, HR.out.app HX0.out.1 (by simpa using hxb) HX0.out.2 HN.out, HA2.out _ (fun y hy => List.mem_append_left _ hy) (fun _ => by simp), B7, K7, by omega⟩
          case measure => simp [intOf]; omega
        · have HN := Lib.hid (show x ∈ out from Classical.byContradiction fun hh => hneg (HPi.out.2 hh))
          clear HPi
          go_wp2_with fail
          go_roundw
          case rel => exact ⟨k + 1, out, by omega, by go_num, HO.out, HR.out, HA2.out _ (fun y hy => hy) (fun _ => HN.out), hB, K, zo⟩
          case measure => simp [intOf]; omega
    · obtain rfl : k = fl := by omega
      have HA3 := Lib.hid (show ∀ x, (∃ j, j < k ∧ fr j = x) → x ≠ 0 → x ∈ out from fun x ⟨j, hj, e⟩ h0 => by subst e; exact HA.out j hj h0)
      clear HA hown
      go_wp2_with fail
      have hz0 : k ≤ 1000 := hfl
      go_loopw [5, 7] (fun v i wr => ∃ (q : Nat) (out : List Int), q ≤ out.length ∧ i = .int .i64 q ∧ OwnInts wr (w.heap.size + 1) v out ∧ RI n W m C U (fun x => ∃ j, j < k ∧ fr j = x) out ∧ (∀ x, (∃ j, j < k ∧ fr j = x) → x ≠ 0 → x ∈ out) ∧ (∀ j, j < q → ∀ x, x ∈ refsOf W (out.getD j 0) (objP (atT n W m C (out.getD j 0))).1.refs.toNat → x ≠ 0 → x ∈ out) ∧ BL wr w.heap.size 42 [.pointer (some ⟨pa, 0, none⟩), .slice A m cap] ∧ Keeps w wr ∧ w.heap.size < wr.heap.size) (fun _ i _ => 101 - (intOf i).toNat)
      case atStart => exact ⟨0, out, by omega, rfl, HO.out, HR.out, HA3.out, fun j hj => by omega, hB, K, zo⟩
      case round =>
        clear hB K zo HO HR HA3 hlen
        obtain ⟨w2, rfl⟩ : ∃ w2 : World, w2 = wr := ⟨_, rfl⟩
        obtain ⟨q, out, hq, rfl, hown, hri, hbase, hdone, hB, K2, zo⟩ := hrel
        have HO := Lib.hid hown
        have HR := Lib.hid hri
        have HA := Lib.hid hbase
        have HD := Lib.hid hdone
        have hlen := HLen.out out hri
        have hlow := hown.lt
        clear hri hbase hdone
        obtain ⟨ado, co, hv⟩ := hown.form
        subst hv
        obtain ⟨hrd, _⟩ := hown.rd
        clear hown
        by_cases hlt : q < out.length
        · obtain ⟨b, off, rfl, d0⟩ := hrd.one hlt
          have d1 : w2.cell? ⟨b, off + q, none⟩ = some (.int .i64 (out.getD q 0)) := d0
          have hxo : out.getD q 0 ∈ out := by rw [List.getD_eq_getElem?_getD, List.getElem?_eq_getElem hlt]; exact List.getElem_mem _
          obtain ⟨hxU, _, hxR⟩ := HR.out.inn _ hxo
          have s0 := hB.c 0 _ rfl
          have s1 := hB.c 1 _ rfl
          have HXR := Lib.hid hxR
          have HDn := Lib.hid (show ∀ out' : List Int, (∃ t, out' = out ++ t) → (∀ y, y ∈ refsOf W (out.getD q 0) (objP (atT n W m C (out.getD q 0))).1.refs.toNat → y ≠ 0 → y ∈ out') → ∀ j, j < q + 1 → ∀ y, y ∈ refsOf W (out'.getD j 0) (objP (atT n W m C (out'.getD j 0))).1.refs.toNat → y ≠ 0 → y ∈ out' from fun out' ⟨t, ht⟩ h2 j hj => by
            have e : out'.getD j 0 = out.getD j 0 := by rw [ht, List.getD_eq_getElem?_getD, List.getElem?_append_left (by omega), ← List.getD_eq_getElem?_getD]
            rw [e]
            rcases (by omega : j < q ∨ j = q) with h | rfl
            · exact fun y hy h0 => by rw [ht]; exact List.mem_append_left _ (HD.out j h y hy h0)
            · exact h2)
          clear d0 hxo hxR hrd HD
          generalize out.getD q 0 = x at *
          go_upto_region 11 with fail
          go_cut [8] from 43 to 49 (fun v wx => ∃ po ar cr, v = .pointer (some ⟨po, 0, none⟩) ∧ wx.cell? ⟨po, 7, none⟩ = some (.slice ar (refsOf W x (objP (atT n W m C x)).1.refs.toNat).length cr) ∧ OwnInts wx w2.heap.size (.slice ar (refsOf W x (objP (atT n W m C x)).1.refs.toNat).length cr) (refsOf W x (objP (atT n W m C x)).1.refs.toNat) ∧ w2.heap.size ≤ po ∧ Keeps w2 wx)
          case first =>
            clear HPl HU HI HO HR HA HDn HXR
            refine wp_region_noPanic ?_
            refine wp_region_held_drew (S := (fun w' => Keeps w2 w')) (by kernel_rfl) (Touch.refl _ w2).drew (fun hHeld => ?_)
            refine' wpAnyH_take (i := 0) ?hi0_1 ?hs0_1 ?hf0_1 ?hr0_1 ?hQ0_1 ?hy0_1 (by assumption) ?rest0_1
            case hi0_1 => simp only [List.getElem?_toArray, List.getElem?_cons_zero] <;> rfl
            case hs0_1 => kernel_rfl
            case hf0_1 => kernel_rfl
            case hr0_1 => kernel_rfl
            case hQ0_1 => exact fun _ _ _ h => h
            case hy0_1 => exact Or.inl ⟨by rfl, fun w hSw => by have q1 := cell_keep s0 hSw; have q2 := cell_keep s1 hSw; have q3 := cell_keep d1 hSw; go_simp <;> (try with_reducible rfl)⟩
            simp only [Act.put, List.setIfInBounds_toArray, List.set_cons_zero, List.set_cons_succ]
            refine' wpAnyH_take (i := 1) ?hi1_1 ?hs1_1 ?hf1_1 ?hr1_1 ?hQ1_1 ?hy1_1 (by assumption) ?rest1_1
            case hi1_1 => simp only [List.getElem?_toArray, List.getElem?_cons_succ, List.getElem?_cons_zero] <;> rfl
            case hs1_1 => kernel_rfl
            case hf1_1 => kernel_rfl
            case hr1_1 => kernel_rfl
            case hQ1_1 => exact fun _ _ _ h => h
            case hy1_1 => exact Or.inl ⟨by rfl, fun w hSw => by have q1 := cell_keep s0 hSw; have q2 := cell_keep s1 hSw; have q3 := cell_keep d1 hSw; go_simp <;> (try with_reducible rfl)⟩
            simp only [Act.put, List.setIfInBounds_toArray, List.set_cons_zero, List.set_cons_succ]
            refine' wpAnyH_take (i := 2) ?hi2_1 ?hs2_1 ?hf2_1 ?hr2_1 ?hQ2_1 ?hy2_1 (by assumption) ?rest2_1
            case hi2_1 => simp only [List.getElem?_toArray, List.getElem?_cons_succ, List.getElem?_cons_zero] <;> rfl
            case hs2_1 => kernel_rfl
            case hf2_1 => kernel_rfl
            case hr2_1 => kernel_rfl
            case hQ2_1 => exact fun _ _ _ h => h
            case hy2_1 => exact Or.inl ⟨by rfl, fun w hSw => by have q1 := cell_keep s0 hSw; have q2 := cell_keep s1 hSw; have q3 := cell_keep d1 hSw; go_simp <;> (try with_reducible rfl)⟩
            simp only [Act.put, List.setIfInBounds_toArray, List.set_cons_zero, List.set_cons_succ]
            refine' wpAnyH_take (i := 3) ?hi3_1 ?hs3_1 ?hf3_1 ?hr3_1 ?hQ3_1 ?hy3_1 (by assumption) ?rest3_1
            case hi3_1 => simp only [List.getElem?_toArray, List.getElem?_cons_succ, List.getElem?_cons_zero] <;> rfl
            case hs3_1 => kernel_rfl
            case hf3_1 => kernel_rfl
            case hr3_1 => kernel_rfl
            case hQ3_1 => exact fun _ _ _ h => h
            case hy3_1 => exact Or.inl ⟨by rfl, fun w hSw => by have q1 := cell_keep s0 hSw; have q2 := cell_keep s1 hSw; have q3 := cell_keep d1 hSw; go_simp <;> (try with_reducible rfl)⟩
            simp only [Act.put, List.setIfInBounds_toArray, List.set_cons_zero, List.set_cons_succ]
            refine' wpAnyH_take (i := 4) ?hi4_1 ?hs4_1 ?hf4_1 ?hr4_1 ?hQ4_1 ?hy4_1 (by assumption) ?rest4_1
            case hi4_1 => simp only [List.getElem?_toArray, List.getElem?_cons_succ, List.getElem?_cons_zero] <;> rfl
            case hs4_1 => kernel_rfl
            case hf4_1 => kernel_rfl
            case hr4_1 => kernel_rfl
            case hQ4_1 => exact fun _ _ _ h => h
            case hy4_1 => exact Or.inl ⟨by rfl, fun w hSw => by have q1 := cell_keep s0 hSw; have q2 := cell_keep s1 hSw; have q3 := cell_keep d1 hSw; go_simp <;> (try with_reducible rfl)⟩
            simp only [Act.put, List.setIfInBounds_toArray, List.set_cons_zero, List.set_cons_succ]
            refine wpAnyH_ready (rs := [5, 6]) (by kernel_rfl) (by simp) ?_
            refine (AllReadyH.cons rfl (fun K hK => ?_) (AllReadyH.cons rfl (fun K hK => ?_) AllReadyH.nil))
            · go_simp
              with_reducible refine Calls.mono (HAt.out _ (Keeps.trans K2 hHeld) x hxU) ?_
              rintro e w3 ⟨vr, vd, rfl, hvr, hvd, k3⟩
              obtain ⟨ar, cr, hv⟩ := hvr.form
              obtain ⟨ae, ce, hv2⟩ := hvd.form
              subst hv
              subst hv2
              have OR := Lib.hid hvr
              clear hvr hvd
              go_wp2_with fail
              have hHeld3 := Keeps.trans hHeld k3
              refine hK.out _ _ hHeld3 (fun hHeld => ?_)
              clear hK K
              refine wpAnyH_ready (rs := [6]) (by kernel_rfl) (by simp) ?_
              refine (AllReadyH.cons rfl (fun K hK => ?_) AllReadyH.nil)
              go_simp
              refine hK.out _ _ (Touch.alloc hHeld3 _) (fun hHeld => ?_)
              clear hK K
              refine wpAnyH_ready (rs := [7]) (by kernel_rfl) (by simp) ?_
              refine (AllReadyH.cons rfl (fun K hK => ?_) AllReadyH.nil)
              go_simp
              refine hK.out _ _ (Touch.alloc hHeld3 _) (fun hHeld => ?_)
              clear hK K
              refine wpAnyH_done (by kernel_rfl) ?_ _
              refine NoPanic.normal ?_
              go_wp2_with fail
              go_meet
              exact ⟨w3.heap.size, ar, cr, rfl, (BL.new1 w3 135 _ [.int .i64 (objP (atT n W m C x)).1.hd.cls, .int .i64 (objP (atT n W m C x)).1.hd.age, .int .i64 (objP (atT n W m C x)).1.hd.fwd, .bool (objP (atT n W m C x)).1.hd.mark, .bool (objP (atT n W m C x)).1.hd.fin, .bool (objP (atT n W m C x)).1.hd.done, .int .i64 (W (x + 1).toNat), .slice ar _ cr, .slice ae _ ce] _ rfl rfl).c 7 _ rfl, (OR.out.alloc _).mono (by simp), (by have := hHeld3.size; omega), hHeld⟩
            · go_simp
              have ka : Keeps w2 ((w2.drew).alloc (.cells (#[.int .i64 0, .int .i64 0, .int .i64 0, .bool false, .bool false, .bool false, .int .i64 0, .slice none 0 0, .slice none 0 0]) 135)) := Touch.alloc hHeld _
              have B0 : BL ((w2.drew).alloc (.cells (#[.int .i64 0, .int .i64 0, .int .i64 0, .bool false, .bool false, .bool false, .int .i64 0, .slice none 0 0, .slice none 0 0]) 135)) w2.heap.size 135 [.int .i64 0, .int .i64 0, .int .i64 0, .bool false, .bool false, .bool false, .int .i64 0, .slice none 0 0, .slice none 0 0] := BL.new1 _ _ _ [.int .i64 0, .int .i64 0, .int .i64 0, .bool false, .bool false, .bool false, .int .i64 0, .slice none 0 0, .slice none 0 0] _ rfl rfl
              refine hK.out _ _ ka (fun hHeld => ?_)
              clear hK K
              refine wpAnyH_ready (rs := [5]) (by kernel_rfl) (by simp) ?_
              refine (AllReadyH.cons rfl (fun K hK => ?_) AllReadyH.nil)
              go_simp
              with_reducible refine Calls.mono (HAt.out _ (Keeps.trans K2 hHeld) x hxU) ?_
              rintro e w3 ⟨vr, vd, rfl, hvr, hvd, k3⟩
              obtain ⟨ar, cr, hv⟩ := hvr.form
              obtain ⟨ae, ce, hv2⟩ := hvd.form
              subst hv
              subst hv2
              have OR := Lib.hid hvr
              clear hvr hvd
              go_wp2_with fail
              have hHeld3 := Keeps.trans hHeld k3
              refine hK.out _ _ hHeld3 (fun hHeld => ?_)
              clear hK K
              refine wpAnyH_ready (rs := [7]) (by kernel_rfl) (by simp) ?_
              refine (AllReadyH.cons rfl (fun K hK => ?_) AllReadyH.nil)
              rw [if_pos (show Region.wanted _ _ = true from rfl)]
              refine wp_store_bl 135 (.tmp 8) (.tmp 48) rfl (BL.keep B0 k3) rfl [.int .i64 (objP (atT n W m C x)).1.hd.cls, .int .i64 (objP (atT n W m C x)).1.hd.age, .int .i64 (objP (atT n W m C x)).1.hd.fwd, .bool (objP (atT n W m C x)).1.hd.mark, .bool (objP (atT n W m C x)).1.hd.fin, .bool (objP (atT n W m C x)).1.hd.done, .int .i64 (W (x + 1).toNat), .slice ar _ cr, .slice ae _ ce] rfl sz_robj rfl rfl ?_
              intro X BX kX
              refine hK.out _ _ (Touch.new hHeld3 kX (Nat.le_refl _)) (fun hHeld => ?_)
              clear hK K
              simp only [Act.put, List.setIfInBounds_toArray, List.set_cons_zero, List.set_cons_succ]
              refine wpAnyH_done (by kernel_rfl) ?_ _
              refine NoPanic.normal ?_
              go_wp2_with fail
              go_meet
              exact ⟨w2.heap.size, ar, cr, rfl, BX.c 7 _ rfl, (OR.out.touch kX (fun k e h => by have := (OR.out.lt k e).1; simp at this; omega)).mono (by simp), (Nat.le_refl _), hHeld⟩
          case rest =>
          obtain ⟨w4, rfl⟩ : ∃ w4 : World, w4 = wc := ⟨_, rfl⟩
          obtain ⟨po, ar, cr, rfl, hpo, hrow, hpz, k4⟩ := hcut
          have HXf := Lib.hid (show ∀ y, y ∈ refsOf W x (objP (atT n W m C x)).1.refs.toNat → y ≠ 0 → y ∈ U ∧ Rch n W m C (fun x => ∃ j, j < k ∧ fr j = x) y from fun y hy h0 => ⟨(HU.out.ref x hxU y hy).resolve_left h0, .step HXR.out hy h0⟩)
          have hrfl := HRl.out x hxU
          have hrd := hrow.rd.1
          have hlo := hrow.rd.2
          have hpl := block_lt_of_cell hpo
          dsimp only at hpl
          have K4 := Keeps.trans K2 k4
          have B4 := hB.keep k4
          have HO4 := Lib.hid (HO.out.touch k4 (fun _ _ h => h))
          have z4 := k4.size
          have HRow := Lib.hid hrow
          clear hrow s0 s1 d1 HAt HI hB HXR hxU HO K2
          generalize refsOf W x (objP (atT n W m C x)).1.refs.toNat = rf at *
          go_wp2_with fail
          go_loopw [5, 52] (fun v i wr => ∃ (p : Nat) (o' : List Int), p ≤ rf.length ∧ i = .int .i64 p ∧ OwnInts wr (w.heap.size + 1) v o' ∧ (∃ t, o' = out ++ t) ∧ RI n W m C U (fun x => ∃ j, j < k ∧ fr j = x) o' ∧ (∀ j, j < p → rf.getD j 0 ≠ 0 → rf.getD j 0 ∈ o') ∧ (∀ kk, v.ownBlock = some kk → kk < w2.heap.size ∨ w4.heap.size ≤ kk) ∧ Touch (fun kk => w.heap.size + 1 ≤ kk ∧ (kk < w2.heap.size ∨ w4.heap.size ≤ kk)) w4 wr) (fun _ i _ => rf.length - (intOf i).toNat)
          case atStart => exact ⟨0, out, by omega, rfl, HO4.out, ⟨[], by simp⟩, HR.out, fun j hj => by omega, fun kk e => .inl (hlow kk e).2, Touch.refl _ _⟩
          case round =>
            obtain ⟨w5, rfl⟩ : ∃ w5 : World, w5 = wr := ⟨_, rfl⟩
            obtain ⟨p, o', hp, rfl, hown, hext, hri, hall, hcon, hT⟩ := hrel
            have HO5 := Lib.hid hown
            have HR5 := Lib.hid hri
            have HA5 := Lib.hid hall
            have HE5 := Lib.hid hext
            have HC5 := Lib.hid hcon
            have hlen5 := HLen.out o' hri
            have hpo5 : w5.cell? ⟨po, 7, none⟩ = some (.slice ar rf.length cr) := by rw [← hpo]; exact World.cell?_of_block (hT.block _ hpl (fun h => by have := h.2; dsimp only at this; omega))
            have z5 := hT.size
            clear hri hall hext hcon
            by_cases hlt5 : p < rf.length
            · obtain ⟨b5, off5, hra, d0⟩ := (hrd.keepS hT (fun b off e h => by have := hlo b off e; have := h.2; omega)).one hlt5
              subst hra
              have d5 : w5.cell? ⟨b5, off5 + p, none⟩ = some (.int .i64 (rf.getD p 0)) := d0
              have hym : rf.getD p 0 ∈ rf := by rw [List.getD_eq_getElem?_getD, List.getElem?_eq_getElem hlt5]; exact List.getElem_mem _
              have HX := Lib.hid (HXf.out _ hym)
              have HA2 := Lib.hid (show ∀ out' : List Int, (∀ x, x ∈ o' → x ∈ out') → (rf.getD p 0 ≠ 0 → rf.getD p 0 ∈ out') → ∀ j, j < p + 1 → rf.getD j 0 ≠ 0 → rf.getD j 0 ∈ out' from fun out' h1 h2 j hj h0 => by
                rcases (by omega : j < p ∨ j = p) with h | rfl
                · exact h1 _ (HA5.out j h h0)
                · exact h2 h0)
              clear d0 HA5 hym
              generalize rf.getD p 0 = y at *
              by_cases hy : y = 0
              · subst hy
                clear hown
                go_wp2_with fail
                go_roundw
                case rel => exact ⟨p + 1, o', by omega, by go_num, HO5.out, HE5.out, HR5.out, HA2.out o' (fun x hx => hx) (fun h0 => absurd rfl h0), HC5.out, hT⟩
                case measure => simp [intOf]; omega
              · obtain ⟨ad5, co5, hv⟩ := hown.form
                subst hv
                obtain ⟨hrd5, _⟩ := hown.rd
                have hyb : (y != 0) = true := by simpa using hy
                have HX0 := Lib.hid (HX.out hy)
                clear hown HX hy
                go_wp2_with fail
                refine Calls.mono (HPl.out ad5 o' _ co5 y _ rfl hrd5 (by omega)) ?_
                rintro e w6 ⟨⟨i, rfl, hi⟩, rfl⟩
                have HPi := Lib.hid hi
                clear hi hrd5
                by_cases hneg : i < 0
                · have HN := Lib.hid (HPi.out.1 hneg)
                  clear HPi
                  go_wp2_with (at_builtin; refine app_int ?_ (.tmp 71) (.tmp 77) ?_ (w.heap.size + 1) (.slice ad5 o'.length co5) o' (HO5.out.alloc _) ?_ w5.heap.size y ?_ (cell_new _ _ _ _ rfl) (by omega) (by simp; omega) ?_; rfl; rfl; rfl; rfl; intro v' w' hown' hgr hbl; have hlo5 := HO5.out.lt; have T7 := Touch.grown (Touch.alloc hT (.cells #[.int .i64 y] 3)) hgr (fun kk e _ => ⟨(hlo5 kk e).1, HC5.out kk e⟩); have HC7 := Lib.hid (show ∀ kk, v'.ownBlock = some kk → kk < w2.heap.size ∨ w4.heap.size ≤ kk from fun kk e => by { rcases hbl with h | h; { exact HC5.out kk (h ▸ e) }; { rw [h] at e; simp at e; omega } }); have HO7 := Lib.hid hown'; clear hgr hbl hlo5 hown')
                  go_roundw
                  case rel => exact ⟨p + 1, o' ++ [y], by omega, by go_num, HO7.out, HE5.out.elim (fun t ht => ⟨t ++ [y], by rw [ht, List.append_assoc]⟩), HR5.out.app HX0.out.1 (by simpa using hyb) HX0.out.2 HN.out, HA2.out _ (fun z hz => List.mem_append_left _ hz) (fun _ => by simp), HC7.out, T7⟩
                  case measure => simp [intOf]; omega
                · have HN := Lib.hid (show y ∈ o' from Classical.byContradiction fun hh => hneg (HPi.out.2 hh))
                  clear HPi
                  go_wp2_with fail
                  go_roundw
                  case rel => exact ⟨p + 1, o', by omega, by go_num, HO5.out, HE5.out, HR5.out, HA2.out _ (fun z hz => hz) (fun _ => HN.out), HC5.out, hT⟩
                  case measure => simp [intOf]; omega
            · obtain rfl : p = rf.length := by omega
              have HF := Lib.hid (show ∀ y, y ∈ rf → y ≠ 0 → y ∈ o' from fun y hy h0 => by
                obtain ⟨j, hj, e⟩ := List.getElem_of_mem hy
                have e2 : rf.getD j 0 = y := by rw [List.getD_eq_getElem?_getD, List.getElem?_eq_getElem hj]; exact e
                rw [← e2]
                exact HA5.out j hj (by rw [e2]; exact h0))
              have K5 : Keeps w w5 := Touch.trans K4 hT (fun kk h hlt => by have := h.1; omega)
              have B5 := B4.touch hT (fun h => by have := h.1; omega)
              clear hown
              go_wp2_with fail
              go_roundw
              case rel => exact ⟨q + 1, o', by obtain ⟨t, ht⟩ := HE5.out; rw [ht]; simp; omega, by go_num, HO5.out, HR5.out, fun y hy h0 => by obtain ⟨t, ht⟩ := HE5.out; rw [ht]; exact List.mem_append_left _ (HA.out y hy h0), HDn.out o' HE5.out HF.out, B5, K5, by omega⟩
              case measure => simp [intOf]; omega
        · obtain rfl : q = out.length := by omega
          go_wp2_with fail
          go_ret
          exact ⟨_, out, rfl, HO.out.mono (by omega), HR.out, HA.out, fun a ha y hy h0 => by
            obtain ⟨j, hj, e⟩ := List.getElem_of_mem ha
            have e2 : out.getD j 0 = a := by rw [List.getD_eq_getElem?_getD, List.getElem?_eq_getElem hj]; exact e
            exact HD.out j hj y (by rw [e2]; exact hy) h0, K2⟩

end Go.Proofs.YtkjgfblkbjlohaaGreat
