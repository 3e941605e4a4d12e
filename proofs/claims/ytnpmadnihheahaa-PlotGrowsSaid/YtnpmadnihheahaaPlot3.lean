/- The reference's Walk by contract; the law's own test. -/
import Derived.Test.YtnpmadnihheahaaPlot2
import Derived.Test.YtnpmadnihheahaaInts
namespace Go.Proofs.Ytnpmadnihheahaa
open Go.RowKit

theorem wx_turn (t : Int) : wx (t + 1) = -wy t ∧ wy (t + 1) = wx t := by
  unfold wx wy
  rcases (by omega : t % 4 = 0 ∨ t % 4 = 1 ∨ t % 4 = 2 ∨ t % 4 = 3) with e | e | e | e
  · have e' : (t + 1) % 4 = 1 := by omega
    simp [e, e']
  · have e' : (t + 1) % 4 = 2 := by omega
    simp [e, e']
  · have e' : (t + 1) % 4 = 3 := by omega
    simp [e, e']
  · have e' : (t + 1) % 4 = 0 := by omega
    simp [e, e']
theorem wx_bd (t : Int) : -1 ≤ wx t ∧ wx t ≤ 1 ∧ -1 ≤ wy t ∧ wy t ≤ 1 := by
  unfold wx wy
  rcases (by omega : t % 4 = 0 ∨ t % 4 = 1 ∨ t % 4 = 2 ∨ t % 4 = 3) with e | e | e | e <;> simp [e]
def xsN (k : Nat) : List Int := (List.range k).map fun j => (St j).x
def ysN (k : Nat) : List Int := (List.range k).map fun j => (St j).y
theorem xsN_succ (k : Nat) : xsN (k + 1) = xsN k ++ [(St k).x] := by simp [xsN, List.range_succ]
theorem ysN_succ (k : Nat) : ysN (k + 1) = ysN k ++ [(St k).y] := by simp [ysN, List.range_succ]
theorem xsN_len (k : Nat) : (xsN k).length = k := by simp [xsN]
theorem ysN_len (k : Nat) : (ysN k).length = k := by simp [ysN]

def WRel (w : World) (many : Nat) (v4 v5 x y dx dy run gone turns i : Value) (wr : World) : Prop :=
  ∃ k : Nat, k ≤ min many 4096 ∧ i = .int .i64 k ∧ x = .int .i64 (St k).x ∧ y = .int .i64 (St k).y ∧ dx = .int .i64 (wx (St k).turns) ∧ dy = .int .i64 (wy (St k).turns) ∧
    run = .int .i64 (St k).run ∧ gone = .int .i64 (St k).gone ∧ turns = .int .i64 (St k).turns ∧ OwnInts wr w.heap.size v4 (xsN k) ∧ OwnInts wr w.heap.size v5 (ysN k) ∧ (∀ q, v4.ownBlock = some q → v5.ownBlock ≠ some q) ∧ Keeps w wr
theorem sep_next {w wr w1 : World} {v4 v5 v4' v5' : Value} (hs : ∀ q, v4.ownBlock = some q → v5.ownBlock ≠ some q) (l5 : ∀ k, v5.ownBlock = some k → w.heap.size ≤ k ∧ k < wr.heap.size)
    (a1 : v4'.ownBlock = v4.ownBlock ∨ v4'.ownBlock = some (wr.heap.size + 1)) (l4' : ∀ k, v4'.ownBlock = some k → w.heap.size ≤ k ∧ k < w1.heap.size) (a2 : v5'.ownBlock = v5.ownBlock ∨ v5'.ownBlock = some (w1.heap.size + 1)) :
    ∀ q, v4'.ownBlock = some q → v5'.ownBlock ≠ some q := by
  intro q e e5
  rcases a2 with a2 | a2
  · rw [a2] at e5
    rcases a1 with a1 | a1
    · rw [a1] at e; exact hs q e e5
    · rw [a1] at e
      have := (l5 q e5).2
      simp only [Option.some.injEq] at e
      omega
  · rw [a2] at e5
    have := (l4' q e).2
    simp only [Option.some.injEq] at e5
    omega

set_option maxRecDepth 100000 in
set_option maxHeartbeats 4000000 in
theorem rwalk_any (many : Nat) (w : World) (hm : many ≤ 4097) :
    Calls Try.prog 13 #[.int .i64 (many : Int)] w fun e w' => ∃ a1 c1 a2 c2, e = .returned (.tuple #[.slice a1 (min many 4096) c1, .slice a2 (min many 4096) c2]) ∧
      Rd w' a1 (min many 4096) (intF .i64 fun j => (St j).x) ∧ Rd w' a2 (min many 4096) (intF .i64 fun j => (St j).y) ∧ Keeps w w' := by
  go_enter Try.func13, Try.ntmps13
  go_wp2_with fail
  go_loopw [4, 5, 6, 7, 8, 9, 10, 11, 12, 13] (fun v4 v5 x y dx dy run gone turns i wr => WRel w many v4 v5 x y dx dy run gone turns i wr) (fun _ _ _ _ _ _ _ _ _ i _ => 4097 - (intOf i).toNat)
  case atStart => exact ⟨0, by omega, rfl, rfl, rfl, rfl, rfl, rfl, rfl, rfl, OwnInts.nil_ _ _, OwnInts.nil_ _ _, (fun q h => by cases h), Touch.refl _ _⟩
  case round =>
    obtain ⟨k, hk, rfl, rfl, rfl, rfl, rfl, rfl, rfl, rfl, h4, h5, hsep, K⟩ := hrel
    by_cases hlt : k < many ∧ k < 4096
    · obtain ⟨l1, l2⟩ := hlt
      have q := sp k (by omega)
      obtain ⟨q1, q2, q3, q4, q5, q6, q7, q8, q9, q10, _⟩ := q
      have hx := xsN_succ k
      have hy := ysN_succ k
      have lx := xsN_len k
      have ly := ysN_len k
      have HX := Lib.hid hx
      have HY := Lib.hid hy
      have HN1 := Lib.hid (st_turn (n := k))
      have HN2 := Lib.hid (st_go (n := k))
      have wt := wx_turn (St k).turns
      have HW := Lib.hid wt
      obtain ⟨b1, b2, b3, b4⟩ := wx_bd (St k).turns
      have hsz := K.size
      have lx' : (xsN k).length ≤ 1000000 := by omega
      have ly' : (ysN k).length ≤ 1000000 := by omega
      have L4 := Lib.hid h4.lt
      have L5 := Lib.hid h5.lt
      have HS := Lib.hid hsep
      clear hx hy lx ly wt hsep
      generalize St k = s at *
      obtain ⟨x, y, run, gone, turns⟩ := s
      dsimp only at *
      go_wp2_with (at_builtin; refine app_int rfl (.tmp 23) (.tmp 25) rfl w.heap.size u4 (xsN k) (h4.alloc _) rfl wr.heap.size x rfl (cell_new _ _ _ _ rfl) lx' (by simp; omega) ?_)
      intro v4' w1 h4' g1 a1
      have hs1 : wr.heap.size + 1 ≤ w1.heap.size := by have := g1.size; simpa using this
      have h5' : OwnInts w1 w.heap.size u5 (ysN k) := (h5.alloc _).grown g1 (by
        cases e : u5.ownBlock with
        | none => exact .inl rfl
        | some q => exact .inr (fun h => HS.out q h.symm (by rw [e])))
      have K1 : Keeps w w1 := (K.alloc _).grown g1 (fun q e hq => by have := (L4.out q e).1; omega)
      have L4' := Lib.hid h4'.lt
      have A1 := Lib.hid (show v4'.ownBlock = u4.ownBlock ∨ v4'.ownBlock = some (wr.heap.size + 1) by simpa using a1)
      clear a1 g1
      by_cases hg : gone + 1 = run
      · have hg' : (gone + 1 == run) = true := by simp [hg]
        have HN := Lib.hid (HN1.out hg)
        clear hg HN1 HN2
        by_cases ht : (turns + 1) % 2 = 0
        · have ht' : ((turns + 1) % 2 == 0) = true := by simp [ht]
          have HT := Lib.hid ht
          clear ht
          go_wp2_with (at_builtin; refine app_int rfl (.tmp 27) (.tmp 29) rfl w.heap.size u5 (ysN k) (h5'.alloc _) rfl w1.heap.size y rfl (cell_new _ _ _ _ rfl) ly' (by simp; omega) ?_)
          intro v5' w2 h5'' g2 a2
          have h4'' : OwnInts w2 w.heap.size v4' (xsN k ++ [x]) := (h4'.alloc _).grown g2 (by
            cases e : v4'.ownBlock with
            | none => exact .inl rfl
            | some q => exact .inr (fun h => by
                rcases A1.out with a | a
                · rw [a] at e; exact HS.out q e h.symm
                · rw [a] at e
                  have := (L5.out q h.symm).2
                  simp only [Option.some.injEq] at e
                  omega))
          have K2 : Keeps w w2 := (K1.alloc _).grown g2 (fun q e hq => by have := (L5.out q e).1; omega)
          have A2 := Lib.hid a2
          clear a2 g2
          go_wp2_with fail
          go_roundw
          case rel =>
            refine ⟨k + 1, by omega, by go_num, ?_⟩
            rw [HN.out, HX.out, HY.out, HW.out.1, HW.out.2]
            dsimp only
            refine ⟨rfl, rfl, rfl, rfl, ?_, rfl, rfl, h4'', h5'', sep_next HS.out L5.out A1.out L4'.out A2.out, K2⟩
            congr 1; have := HT.out; omega
          case measure => simp [intOf]; omega
        · have ht' : ((turns + 1) % 2 == 0) = false := by simp [ht]
          have HT := Lib.hid ht
          clear ht
          go_wp2_with (at_builtin; refine app_int rfl (.tmp 27) (.tmp 29) rfl w.heap.size u5 (ysN k) (h5'.alloc _) rfl w1.heap.size y rfl (cell_new _ _ _ _ rfl) ly' (by simp; omega) ?_)
          intro v5' w2 h5'' g2 a2
          have h4'' : OwnInts w2 w.heap.size v4' (xsN k ++ [x]) := (h4'.alloc _).grown g2 (by
            cases e : v4'.ownBlock with
            | none => exact .inl rfl
            | some q => exact .inr (fun h => by
                rcases A1.out with a | a
                · rw [a] at e; exact HS.out q e h.symm
                · rw [a] at e
                  have := (L5.out q h.symm).2
                  simp only [Option.some.injEq] at e
                  omega))
          have K2 : Keeps w w2 := (K1.alloc _).grown g2 (fun q e hq => by have := (L5.out q e).1; omega)
          have A2 := Lib.hid a2
          clear a2 g2
          go_wp2_with fail
          go_roundw
          case rel =>
            refine ⟨k + 1, by omega, by go_num, ?_⟩
            rw [HN.out, HX.out, HY.out, HW.out.1, HW.out.2]
            dsimp only
            refine ⟨rfl, rfl, rfl, rfl, ?_, rfl, rfl, h4'', h5'', sep_next HS.out L5.out A1.out L4'.out A2.out, K2⟩
            congr 1; have := HT.out; omega
          case measure => simp [intOf]; omega
      · have hg' : (gone + 1 == run) = false := by simp [hg]
        have HN := Lib.hid (HN2.out hg)
        clear hg HN1 HN2
        go_wp2_with (at_builtin; refine app_int rfl (.tmp 27) (.tmp 29) rfl w.heap.size u5 (ysN k) (h5'.alloc _) rfl w1.heap.size y rfl (cell_new _ _ _ _ rfl) ly' (by simp; omega) ?_)
        intro v5' w2 h5'' g2 a2
        have h4'' : OwnInts w2 w.heap.size v4' (xsN k ++ [x]) := (h4'.alloc _).grown g2 (by
          cases e : v4'.ownBlock with
          | none => exact .inl rfl
          | some q => exact .inr (fun h => by
              rcases A1.out with a | a
              · rw [a] at e; exact HS.out q e h.symm
              · rw [a] at e
                have := (L5.out q h.symm).2
                simp only [Option.some.injEq] at e
                omega))
        have K2 : Keeps w w2 := (K1.alloc _).grown g2 (fun q e hq => by have := (L5.out q e).1; omega)
        have A2 := Lib.hid a2
        clear a2 g2
        go_wp2_with fail
        go_roundw
        case rel =>
          refine ⟨k + 1, by omega, by go_num, ?_⟩
          rw [HN.out, HX.out, HY.out]
          dsimp only
          refine ⟨rfl, rfl, rfl, rfl, rfl, rfl, rfl, h4'', h5'', sep_next HS.out L5.out A1.out L4'.out A2.out, K2⟩
        case measure => simp [intOf]; omega
    · obtain ⟨ad4, cp4, hf4⟩ := h4.form
      obtain ⟨ad5, cp5, hf5⟩ := h5.form
      have r4 : Rd wr ad4 k (intF .i64 fun j => (St j).x) := by
        rw [hf4] at h4
        have := h4.rd.1
        rw [xsN_len] at this
        exact this.congr fun j hj => by simp [intF, xsN, hj]
      have r5 : Rd wr ad5 k (intF .i64 fun j => (St j).y) := by
        rw [hf5] at h5
        have := h5.rd.1
        rw [ysN_len] at this
        exact this.congr fun j hj => by simp [intF, ysN, hj]
      rw [xsN_len] at hf4
      rw [ysN_len] at hf5
      have hk' : min many 4096 = k := by omega
      have HK := Lib.hid hk'
      clear h4 h5 hsep hk'
      by_cases l1 : k < many
      · have l2 : ¬ k < 4096 := by omega
        go_wp2_with fail
        go_ret2
        rw [HK.out]
        exact ⟨ad4, cp4, ad5, cp5, by rw [← hf4, ← hf5]; rfl, r4, r5, K⟩
      · go_wp2_with fail
        go_ret2
        rw [HK.out]
        exact ⟨ad4, cp4, ad5, cp5, by rw [← hf4, ← hf5]; rfl, r4, r5, K⟩
end Go.Proofs.Ytnpmadnihheahaa
