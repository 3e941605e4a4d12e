/- The law PlotGrows: the walk. -/
import Derived.Test.YtnpmadnihheahaaPlotP
import Derived.Deep.RegionHeld3
import Derived.Deep.DeepCutAuto
import Derived.Deep.CutBlock
namespace Go.Proofs.Ytnpmadnihheahaa
open Go.RowKit

/-- One byte more. -/
def more (s : ByteArray) (m : Int) : ByteArray := s ++ strOfNums [m]
theorem more_size (s : ByteArray) (m : Int) : (more s m).size = s.size + 1 := by
  unfold more
  rw [ByteArray.size_append, strOfNums_size]
  rfl
theorem more_byt (s : ByteArray) (m : Int) {k : Nat} (hk : k < s.size) : byt (more s m) k = byt s k := by
  have hk' : k < s.data.toList.length := by simpa using hk
  unfold byt more
  rw [List.getD_eq_getElem?_getD, List.getD_eq_getElem?_getD]
  have e : (s ++ strOfNums [m]).data.toList = s.data.toList ++ (strOfNums [m]).data.toList := by simp
  rw [e, List.getElem?_append_left hk']
theorem more_last (s : ByteArray) (m : Int) (h0 : 0 ≤ m) (h1 : m ≤ 255) : byt (more s m) s.size = m := by
  unfold byt more
  rw [List.getD_eq_getElem?_getD]
  have e : (s ++ strOfNums [m]).data.toList = s.data.toList ++ (strOfNums [m]).data.toList := by simp
  have e2 : s.size = s.data.toList.length := by simp
  rw [e, e2, List.getElem?_append_right (Nat.le_refl _), Nat.sub_self]
  show ((UInt8.ofNat m.toNat).toNat : Int) = m
  rw [UInt8.toNat_ofNat']
  omega

set_option maxRecDepth 100000 in
set_option maxHeartbeats 1000000 in
theorem grows_walk (s : ByteArray) (m : Int) (w : World) (hs : s.size ≤ 9223372036854775807) (hm : (Lit.int .u8 m).wf = true) :
    Calls Try.prog 10 #[.string s, .int .u8 m] w fun e w' => e = .returned (.bool true) ∧ Keeps w w' := by
  obtain ⟨hm0, hm1⟩ := u8_bounds hm
  clear hm
  by_cases h1 : s.size ≤ 1000
  · by_cases h0 : s.size = 0
    · have g1 : ¬ (1000 : Int) < (s.size : Int) := by omega
      have g2 : ((s.size : Int) == 0) = true := by simp [h0]
      go_enter Try.func10, Try.ntmps10
      go_wp2_with fail
      refine (awake_any _).mono ?_
      rintro e w1 ⟨rfl, k1⟩
      go_wp2_with fail
      refine (awake_any _).mono ?_
      rintro e w2 ⟨rfl, k2⟩
      go_wp2_with fail
      go_ret
      exact ⟨rfl, Keeps.trans k1 k2⟩
    · have g1 : ¬ (1000 : Int) < (s.size : Int) := by omega
      have g2 : ((s.size : Int) == 0) = false := by rw [beq_eq_false_iff_ne]; omega
      have hlim : ¬ 9223372036854775807 < s.size + (strOfNums [m]).size := by rw [strOfNums_size]; show ¬ 9223372036854775807 < s.size + 1; omega
      have hg1 : ∀ w, Calls Try.prog 19 #[.string s] w fun e w' => ∃ b, e = .returned (.map (some b)) ∧ GMap w' b s.size (byt s) ∧ w.heap.size ≤ b ∧ Keeps w w' := fun w => grid_any s w (by omega) (by omega)
      have hg2 : ∀ w, Calls Try.prog 19 #[.string (s ++ strOfNums [m])] w fun e w' => ∃ b, e = .returned (.map (some b)) ∧ GMap w' b (s.size + 1) (byt (more s m)) ∧ w.heap.size ≤ b ∧ Keeps w w' := fun w => by
        have h := grid_any (more s m) w (by rw [more_size]; omega) (by rw [more_size]; omega)
        rw [more_size] at h
        exact h
      have HG1 := Lib.hid hg1
      have HG2 := Lib.hid hg2
      clear hg1 hg2
      go_enter Try.func10, Try.ntmps10
      go_wp2_with fail
      refine (awake_any _).mono ?_
      rintro e w1 ⟨rfl, k1⟩
      go_wp2_with fail
      go_cut [5, 6] (fun va vb wx => ∃ b1 b2, va = .map (some b1) ∧ vb = .map (some b2) ∧ GMap wx b1 s.size (byt s) ∧ GMap wx b2 (s.size + 1) (byt (more s m)) ∧ Keeps w1 wx)
      case first => as_aux_lemma =>
        -- region 3
        refine wp_region_noPanic ?_
        refine wp_region_held_drew (S := (fun w' => Keeps w1 w')) (by kernel_rfl) (Touch.refl _ w1).drew (fun hHeld => ?_)
        refine' wpAnyH_take (i := 0) ?hi0_1 ?hs0_1 ?hf0_1 ?hr0_1 ?hQ0_1 ?hy0_1 (by assumption) ?rest0_1
        case hi0_1 => simp only [List.getElem?_toArray, List.getElem?_cons_zero]; rfl
        case hs0_1 => kernel_rfl
        case hf0_1 => kernel_rfl
        case hr0_1 => kernel_rfl
        case hQ0_1 => exact fun _ _ _ h => h
        case hy0_1 => exact Or.inl ⟨by rfl, fun w hSw => by go_simp; try with_reducible rfl⟩
        simp only [Act.put, List.setIfInBounds_toArray, List.set_cons_zero, List.set_cons_succ]
        refine' wpAnyH_take (i := 2) ?hi2_2 ?hs2_2 ?hf2_2 ?hr2_2 ?hQ2_2 ?hy2_2 (by assumption) ?rest2_2
        case hi2_2 => simp only [List.getElem?_toArray, List.getElem?_cons_succ, List.getElem?_cons_zero]; rfl
        case hs2_2 => kernel_rfl
        case hf2_2 => kernel_rfl
        case hr2_2 => kernel_rfl
        case hQ2_2 => exact fun _ _ _ h => h
        case hy2_2 => exact Or.inl ⟨by rfl, fun w hSw => by go_simp; try with_reducible rfl⟩
        simp only [Act.put, List.setIfInBounds_toArray, List.set_cons_zero, List.set_cons_succ]
        refine' wpAnyH_take (i := 3) ?hi3_3 ?hs3_3 ?hf3_3 ?hr3_3 ?hQ3_3 ?hy3_3 (by assumption) ?rest3_3
        case hi3_3 => simp only [List.getElem?_toArray, List.getElem?_cons_succ, List.getElem?_cons_zero]; rfl
        case hs3_3 => kernel_rfl
        case hf3_3 => kernel_rfl
        case hr3_3 => kernel_rfl
        case hQ3_3 => exact fun _ _ _ h => h
        case hy3_3 => exact Or.inl ⟨by rfl, fun w hSw => by go_simp; try with_reducible rfl⟩
        simp only [Act.put, List.setIfInBounds_toArray, List.set_cons_zero, List.set_cons_succ]
        refine wpAnyH_ready (rs := [1, 4]) (by kernel_rfl) (by simp) ?_
        refine (AllReadyH.cons rfl (fun K hK => ?_) (AllReadyH.cons rfl (fun K hK => ?_) AllReadyH.nil))
        · go_simp
          refine (HG1.out _).mono ?_
          rintro e w3 ⟨b1, rfl, hG1, hb1, k3⟩
          go_wp2_with fail
          refine hK.out _ _ (Keeps.trans hHeld k3) (fun hHeld => ?_)
          clear hK K
          refine wpAnyH_ready (rs := [4]) (by kernel_rfl) (by simp) ?_
          refine (AllReadyH.cons rfl (fun K hK => ?_) AllReadyH.nil)
          go_simp
          have hcl := cell_new (w3) (.int .u8 m) 5 _ rfl
          have kA : Keeps (w3) ((w3).alloc (.cells #[.int .u8 m] 5)) := (Touch.refl _ _).alloc _
          refine hK.out _ _ (Keeps.trans hHeld kA) (fun hHeld => ?_)
          clear hK K
          refine wpAnyH_ready (rs := [5]) (by kernel_rfl) (by simp) ?_
          refine (AllReadyH.cons rfl (fun K hK => ?_) AllReadyH.nil)
          have hcv := run_convert_bytes_arg (w3.alloc (.cells #[.int .u8 m] 5)) 49 5 und_bs und_u8 (w3.heap.size) 0 1 1 [m] rfl (fun i hi => by cases (show i = 0 by omega); exact hcl) 9 und_str
          go_simp
          clear hcv
          refine hK.out _ _ hHeld (fun hHeld => ?_)
          clear hK K
          refine' wpAnyH_take (i := 6) ?hi6_4 ?hs6_4 ?hf6_4 ?hr6_4 ?hQ6_4 ?hy6_4 (by assumption) ?rest6_4
          case hi6_4 => simp only [List.getElem?_toArray, List.getElem?_cons_succ, List.getElem?_cons_zero]; rfl
          case hs6_4 => kernel_rfl
          case hf6_4 => kernel_rfl
          case hr6_4 => kernel_rfl
          case hQ6_4 => exact fun _ _ _ h => h
          case hy6_4 => exact Or.inl ⟨by rfl, fun w hSw => by go_simp; try with_reducible rfl⟩
          simp only [Act.put, List.setIfInBounds_toArray, List.set_cons_zero, List.set_cons_succ]
          refine wpAnyH_ready (rs := [7]) (by kernel_rfl) (by simp) ?_
          refine (AllReadyH.cons rfl (fun K hK => ?_) AllReadyH.nil)
          go_simp
          refine (HG2.out _).mono ?_
          rintro e w4 ⟨b2, rfl, hG2, hb2, k4⟩
          go_wp2_with fail
          refine hK.out _ _ (Keeps.trans hHeld k4) (fun hHeld => ?_)
          clear hK K
          refine' wpAnyH_take (i := 8) ?hi8_5 ?hs8_5 ?hf8_5 ?hr8_5 ?hQ8_5 ?hy8_5 (by assumption) ?rest8_5
          case hi8_5 => simp only [List.getElem?_toArray, List.getElem?_cons_succ, List.getElem?_cons_zero]; rfl
          case hs8_5 => kernel_rfl
          case hf8_5 => kernel_rfl
          case hr8_5 => kernel_rfl
          case hQ8_5 => exact fun _ _ _ h => h
          case hy8_5 => exact Or.inl ⟨by rfl, fun w hSw => by go_simp; try with_reducible rfl⟩
          simp only [Act.put, List.setIfInBounds_toArray, List.set_cons_zero, List.set_cons_succ]
          refine' wpAnyH_take (i := 9) ?hi9_6 ?hs9_6 ?hf9_6 ?hr9_6 ?hQ9_6 ?hy9_6 (by assumption) ?rest9_6
          case hi9_6 => simp only [List.getElem?_toArray, List.getElem?_cons_succ, List.getElem?_cons_zero]; rfl
          case hs9_6 => kernel_rfl
          case hf9_6 => kernel_rfl
          case hr9_6 => kernel_rfl
          case hQ9_6 => exact fun _ _ _ h => h
          case hy9_6 => exact Or.inl ⟨by rfl, fun w hSw => by go_simp; try with_reducible rfl⟩
          simp only [Act.put, List.setIfInBounds_toArray, List.set_cons_zero, List.set_cons_succ]
          refine wpAnyH_done (by kernel_rfl) ?_ _
          refine NoPanic.normal ?_
          go_wp2_with fail
          go_meet
          exact ⟨b1, b2, rfl, rfl, ((hG1.touch kA (fun h => h)).touch k4 (fun h => h)), hG2, hHeld⟩
        · go_simp
          have hcl := cell_new w1 (.int .u8 m) 5 _ rfl
          have kA : Keeps w1 ((w1.alloc (.cells #[.int .u8 m] 5)).drew) := ((Touch.refl _ w1).alloc _).drew
          refine hK.out _ _ kA (fun hHeld => ?_)
          clear hK K kA
          refine wpAnyH_ready (rs := [1, 5]) (by kernel_rfl) (by simp) ?_
          refine (AllReadyH.cons rfl (fun K hK => ?_) (AllReadyH.cons rfl (fun K hK => ?_) AllReadyH.nil))
          · go_simp
            refine (HG1.out _).mono ?_
            rintro e w3 ⟨b1, rfl, hG1, hb1, k3⟩
            go_wp2_with fail
            refine hK.out _ _ (Keeps.trans hHeld k3) (fun hHeld => ?_)
            clear hK K
            replace hcl := (World.cell?_of_block (k3.block _ (World.block_lt_of_cell? _ _ hcl) (fun h => h))).trans hcl
            refine wpAnyH_ready (rs := [5]) (by kernel_rfl) (by simp) ?_
            refine (AllReadyH.cons rfl (fun K hK => ?_) AllReadyH.nil)
            have hcv := run_convert_bytes_arg (w3) 49 5 und_bs und_u8 (w1.heap.size) 0 1 1 [m] rfl (fun i hi => by cases (show i = 0 by omega); exact hcl) 9 und_str
            go_simp
            clear hcv
            refine hK.out _ _ hHeld (fun hHeld => ?_)
            clear hK K
            refine' wpAnyH_take (i := 6) ?hi6_7 ?hs6_7 ?hf6_7 ?hr6_7 ?hQ6_7 ?hy6_7 (by assumption) ?rest6_7
            case hi6_7 => simp only [List.getElem?_toArray, List.getElem?_cons_succ, List.getElem?_cons_zero]; rfl
            case hs6_7 => kernel_rfl
            case hf6_7 => kernel_rfl
            case hr6_7 => kernel_rfl
            case hQ6_7 => exact fun _ _ _ h => h
            case hy6_7 => exact Or.inl ⟨by rfl, fun w hSw => by go_simp; try with_reducible rfl⟩
            simp only [Act.put, List.setIfInBounds_toArray, List.set_cons_zero, List.set_cons_succ]
            refine wpAnyH_ready (rs := [7]) (by kernel_rfl) (by simp) ?_
            refine (AllReadyH.cons rfl (fun K hK => ?_) AllReadyH.nil)
            go_simp
            refine (HG2.out _).mono ?_
            rintro e w4 ⟨b2, rfl, hG2, hb2, k4⟩
            go_wp2_with fail
            refine hK.out _ _ (Keeps.trans hHeld k4) (fun hHeld => ?_)
            clear hK K
            refine' wpAnyH_take (i := 8) ?hi8_8 ?hs8_8 ?hf8_8 ?hr8_8 ?hQ8_8 ?hy8_8 (by assumption) ?rest8_8
            case hi8_8 => simp only [List.getElem?_toArray, List.getElem?_cons_succ, List.getElem?_cons_zero]; rfl
            case hs8_8 => kernel_rfl
            case hf8_8 => kernel_rfl
            case hr8_8 => kernel_rfl
            case hQ8_8 => exact fun _ _ _ h => h
            case hy8_8 => exact Or.inl ⟨by rfl, fun w hSw => by go_simp; try with_reducible rfl⟩
            simp only [Act.put, List.setIfInBounds_toArray, List.set_cons_zero, List.set_cons_succ]
            refine' wpAnyH_take (i := 9) ?hi9_9 ?hs9_9 ?hf9_9 ?hr9_9 ?hQ9_9 ?hy9_9 (by assumption) ?rest9_9
            case hi9_9 => simp only [List.getElem?_toArray, List.getElem?_cons_succ, List.getElem?_cons_zero]; rfl
            case hs9_9 => kernel_rfl
            case hf9_9 => kernel_rfl
            case hr9_9 => kernel_rfl
            case hQ9_9 => exact fun _ _ _ h => h
            case hy9_9 => exact Or.inl ⟨by rfl, fun w hSw => by go_simp; try with_reducible rfl⟩
            simp only [Act.put, List.setIfInBounds_toArray, List.set_cons_zero, List.set_cons_succ]
            refine wpAnyH_done (by kernel_rfl) ?_ _
            refine NoPanic.normal ?_
            go_wp2_with fail
            go_meet
            exact ⟨b1, b2, rfl, rfl, (hG1.touch k4 (fun h => h)), hG2, hHeld⟩
          · have hcv := run_convert_bytes_arg ((w1.alloc (.cells #[.int .u8 m] 5)).drew) 49 5 und_bs und_u8 (w1.heap.size) 0 1 1 [m] rfl (fun i hi => by cases (show i = 0 by omega); exact hcl) 9 und_str
            go_simp
            clear hcv
            refine hK.out _ _ hHeld (fun hHeld => ?_)
            clear hK K
            refine' wpAnyH_take (i := 6) ?hi6_10 ?hs6_10 ?hf6_10 ?hr6_10 ?hQ6_10 ?hy6_10 (by assumption) ?rest6_10
            case hi6_10 => simp only [List.getElem?_toArray, List.getElem?_cons_succ, List.getElem?_cons_zero]; rfl
            case hs6_10 => kernel_rfl
            case hf6_10 => kernel_rfl
            case hr6_10 => kernel_rfl
            case hQ6_10 => exact fun _ _ _ h => h
            case hy6_10 => exact Or.inl ⟨by rfl, fun w hSw => by go_simp; try with_reducible rfl⟩
            simp only [Act.put, List.setIfInBounds_toArray, List.set_cons_zero, List.set_cons_succ]
            refine wpAnyH_ready (rs := [1]) (by kernel_rfl) (by simp) ?_
            refine (AllReadyH.cons rfl (fun K hK => ?_) AllReadyH.nil)
            go_simp
            refine (HG1.out _).mono ?_
            rintro e w3 ⟨b1, rfl, hG1, hb1, k3⟩
            go_wp2_with fail
            refine hK.out _ _ (Keeps.trans hHeld k3) (fun hHeld => ?_)
            clear hK K
            refine wpAnyH_ready (rs := [7]) (by kernel_rfl) (by simp) ?_
            refine (AllReadyH.cons rfl (fun K hK => ?_) AllReadyH.nil)
            go_simp
            refine (HG2.out _).mono ?_
            rintro e w4 ⟨b2, rfl, hG2, hb2, k4⟩
            go_wp2_with fail
            refine hK.out _ _ (Keeps.trans hHeld k4) (fun hHeld => ?_)
            clear hK K
            refine' wpAnyH_take (i := 8) ?hi8_11 ?hs8_11 ?hf8_11 ?hr8_11 ?hQ8_11 ?hy8_11 (by assumption) ?rest8_11
            case hi8_11 => simp only [List.getElem?_toArray, List.getElem?_cons_succ, List.getElem?_cons_zero]; rfl
            case hs8_11 => kernel_rfl
            case hf8_11 => kernel_rfl
            case hr8_11 => kernel_rfl
            case hQ8_11 => exact fun _ _ _ h => h
            case hy8_11 => exact Or.inl ⟨by rfl, fun w hSw => by go_simp; try with_reducible rfl⟩
            simp only [Act.put, List.setIfInBounds_toArray, List.set_cons_zero, List.set_cons_succ]
            refine' wpAnyH_take (i := 9) ?hi9_12 ?hs9_12 ?hf9_12 ?hr9_12 ?hQ9_12 ?hy9_12 (by assumption) ?rest9_12
            case hi9_12 => simp only [List.getElem?_toArray, List.getElem?_cons_succ, List.getElem?_cons_zero]; rfl
            case hs9_12 => kernel_rfl
            case hf9_12 => kernel_rfl
            case hr9_12 => kernel_rfl
            case hQ9_12 => exact fun _ _ _ h => h
            case hy9_12 => exact Or.inl ⟨by rfl, fun w hSw => by go_simp; try with_reducible rfl⟩
            simp only [Act.put, List.setIfInBounds_toArray, List.set_cons_zero, List.set_cons_succ]
            refine wpAnyH_done (by kernel_rfl) ?_ _
            refine NoPanic.normal ?_
            go_wp2_with fail
            go_meet
            exact ⟨b1, b2, rfl, rfl, (hG1.touch k4 (fun h => h)), hG2, hHeld⟩
        -- behind region 3
      case rest => as_aux_lemma =>
        obtain ⟨b1, b2, rfl, rfl, hG1, hG2, k2⟩ := hcut
        have hn : s.size ≤ 4096 := by omega
        have hbm := fun k (h : k < s.size) => more_byt s m h
        have hbl := more_last s m hm0 hm1
        have HBM := Lib.hid hbm
        have HBL := Lib.hid hbl
        have hlen := Lib.hid (show ((s.size + 1 : Nat) : Int) = (s.size : Int) + 1 by omega)
        clear HG1 HG2 hbm hbl hlim
        generalize byt (more s m) = v2 at *
        generalize wc = w2 at *
        obtain ⟨w3, hrange, hR3, k3⟩ := hG1.range
        have hb1 := hG1.lt
        have hb2 := hG2.lt
        have hG3 := hG2.touch k3 (fun h => h)
        have K3 := Keeps.trans k2 k3
        have hbr : w1.heap.size ≤ w2.heap.size := k2.size
        have hn1 : w2.heap.size ≠ b1 := by omega
        have hn2 : w2.heap.size ≠ b2 := by omega
        clear hG1 hG2 k2 k3 hb1 hb2
        generalize w2.heap.size = br at *
        go_wp2_with fail
        go_loopw [] (fun wx => ∃ seen c0, GRange wx b1 br s.size (byt s) seen c0 ∧ GMap wx b2 (s.size + 1) v2 ∧ Keeps w1 wx) (fun wx => wx.rangeLeft b1 br)
        case atStart => exact ⟨_, _, hR3, hG3, K3⟩
        case round =>
          clear hR3 hG3 K3 hrange
          obtain ⟨seen, c0, hR, hG, K⟩ := hrel
          have hleft := Lib.hid hR.left
          rcases hR.next 0 with ⟨_, hnext⟩ | ⟨j, w4, hj, hnext, hR4, hlt4, k4, hentry⟩
          · have hp := place_any (s.size : Int) wr (by omega) (by omega)
            rw [Int.toNat_natCast] at hp
            have HP := Lib.hid hp
            have hGa := hR.1
            have HLK := Lib.hid (fun wx (h : GMap wx b2 (s.size + 1) v2) => h.look (k := s.size) (by omega) (by omega))
            unfold posV at HLK
            rw [HBL.out] at HLK
            clear hp hR hleft
            generalize fB (St s.size).x = xx at *
            generalize fB (St s.size).y = yy at *
            go_wp2_with fail
            refine Calls.mono HP.out ?_
            rintro e w5 ⟨rfl, k5⟩
            have hl1 := (hGa.touch k5 (fun h => h)).len 3
            have hl2 := (hG.touch k5 (fun h => h)).len 3
            rw [hlen.out] at hl2
            have hlook := HLK.out w5 (hG.touch k5 (fun h => h))
            clear HLK hGa hG
            go_wp2_with fail
            go_ret
            exact ⟨rfl, Keeps.trans k1 (Keeps.trans K k5)⟩
          · have hG4 := hG.touch k4 (Ne.symm hn2)
            have hlook := hG4.look (k := j) (by omega) (by omega)
            rw [HBM.out j hj] at hlook
            have K4 := K.new k4 hbr
            unfold posV at hnext hentry hlook
            clear hR hG K k4
            have HR4 := Lib.hid hR4
            clear hR4
            generalize fB (St j).x = xx at *
            generalize fB (St j).y = yy at *
            generalize hcc : byt s j = cc at *
            go_wp2_with fail
            go_roundw
            case rel => exact ⟨_, _, HR4.out, hG4, K4⟩
            case measure => rw [HR4.out.left, hleft.out]; exact hlt4
  · have g1 : (1000 : Int) < (s.size : Int) := by omega
    go_enter Try.func10, Try.ntmps10
    go_wp2_with fail
    refine (awake_any _).mono ?_
    rintro e w1 ⟨rfl, k1⟩
    go_wp2_with fail
    refine (awake_any _).mono ?_
    rintro e w2 ⟨rfl, k2⟩
    go_wp2_with fail
    go_ret
    exact ⟨rfl, Keeps.trans k1 k2⟩

end Go.Proofs.Ytnpmadnihheahaa
