/- The reference's table by contracts: All, Place, New. -/
import Derived.Test.YtnjjecojedlccaaHan5
import Derived.Test.YtnjjecojedlccaaSame
import Derived.StillTailTactics
namespace Go.Proofs.Ytnjjecojedlccaa
open Go.RowKit

def refF (R : Nat → Pl) : Nat → Value := fun j => if j < 64 then .int .i64 (R j).n else if j < 128 then .bool (R (j - 64)).on else .int .i64 (R (j - 128)).x
abbrev RTab (w : World) (b : Nat) (R : Nat → Pl) : Prop := Blk w b 52 192 (refF R)
section
variable {w : World} {b : Nat} {R : Nat → Pl}
theorem rtab0 (h : RTab w b R) {i : Nat} (hi : i < 64) : w.cell? ⟨b, i, none⟩ = some (.int .i64 (R i).n) := by
  rw [Blk.cell h (by omega)]; simp [refF, hi]
theorem rtab1 (h : RTab w b R) {i : Nat} (hi : i < 64) : w.cell? ⟨b, 64 + i, none⟩ = some (.bool (R i).on) := by
  rw [Blk.cell h (by omega)]
  have e : ¬ 64 + i < 64 := by omega
  have e2 : 64 + i < 128 := by omega
  have e3 : 64 + i - 64 = i := by omega
  simp [refF, e, e2, e3]
theorem rtab2 (h : RTab w b R) {i : Nat} (hi : i < 64) : w.cell? ⟨b, 128 + i, none⟩ = some (.int .i64 (R i).x) := by
  rw [Blk.cell h (by omega)]
  have e : ¬ 128 + i < 64 := by omega
  simp [refF, e]
theorem rset0 (h : RTab w b R) {i : Nat} (hi : i < 64) (n : Int) : RTab (w.setCell ⟨b, i, none⟩ (.int .i64 n)) b (setT R i { R i with n := n }) := by
  refine (Blk.set h _ _).congr fun j hj => ?_
  unfold upd refF setT
  by_cases e : j = i
  · subst e; simp [hi]
  · rw [if_neg e]
    by_cases h1 : j < 64
    · simp [h1, e]
    · by_cases h2 : j < 128
      · simp only [h1, h2, if_true, if_false]
        by_cases e3 : j - 64 = i <;> simp [e3]
      · simp only [h1, h2, if_false]
        by_cases e3 : j - 128 = i <;> simp [e3]
theorem rset1 (h : RTab w b R) {i : Nat} (hi : i < 64) (on : Bool) : RTab (w.setCell ⟨b, 64 + i, none⟩ (.bool on)) b (setT R i { R i with on := on }) := by
  refine (Blk.set h _ _).congr fun j hj => ?_
  unfold upd refF setT
  by_cases h1 : j < 64
  · rw [if_neg (by omega)]
    simp only [h1, if_true]
    by_cases e3 : j = i <;> simp [e3]
  · by_cases h2 : j < 128
    · simp only [h1, h2, if_true, if_false]
      by_cases e3 : j = 64 + i
      · have : j - 64 = i := by omega
        simp [e3]
      · have : ¬ j - 64 = i := by omega
        simp [e3, this]
    · rw [if_neg (by omega)]
      simp only [h1, h2, if_false]
      by_cases e3 : j - 128 = i <;> simp [e3]
theorem rset2 (h : RTab w b R) {i : Nat} (hi : i < 64) (x : Int) : RTab (w.setCell ⟨b, 128 + i, none⟩ (.int .i64 x)) b (setT R i { R i with x := x }) := by
  refine (Blk.set h _ _).congr fun j hj => ?_
  unfold upd refF setT
  by_cases h1 : j < 64
  · rw [if_neg (by omega)]
    simp only [h1, if_true]
    by_cases e3 : j = i <;> simp [e3]
  · by_cases h2 : j < 128
    · rw [if_neg (by omega)]
      simp only [h1, h2, if_true, if_false]
      by_cases e3 : j - 64 = i <;> simp [e3]
    · simp only [h1, h2, if_false]
      by_cases e3 : j = 128 + i
      · have : ¬ 128 + i < 64 := by omega
        simp [e3]
      · have : ¬ j - 128 = i := by omega
        simp [e3, this]
end

set_option maxHeartbeats 1000000 in
theorem rall_any (b : Nat) (R : Nat → Pl) (w : World) (N : Int) (hT : RTab w b R) (hw : WF R N) :
    Calls Try.prog 19 #[.pointer (some ⟨b, 0, none⟩)] w fun e w' => ∃ ad cap, e = .returned (.slice ad (allT R).length cap) ∧ OwnInts w' w.heap.size (.slice ad (allT R).length cap) (allT R) ∧ Keeps w w' := by
  obtain ⟨w0, w1⟩ := hw
  obtain ⟨i0, hi, hz0, hz1, hz2⟩ := info_parts Try.info3
  go_enter Try.func19, Try.ntmps19
  go_wp2_with fail
  go_loopw [3, 4] (fun v i wr => ∃ k : Nat, k ≤ 64 ∧ i = .int .i64 k ∧ OwnInts wr w.heap.size v (allK R k) ∧ Keeps w wr) (fun _ i _ => 64 - (intOf i).toNat)
  case atStart => exact ⟨0, by omega, rfl, World.ownsRow_nil _ _ _ _, Touch.refl _ _⟩
  case round =>
    obtain ⟨k, hk, rfl, hown, hkeep⟩ := hrel
    have hown' : wr.ownsRow w.heap.size 3 1 u3 (allK R k).length (ints (allK R k)) := hown
    have HB := Lib.hid hown'.lt
    have hlen := allK_len R k
    have hsz := hkeep.size
    by_cases hlt : k < 64
    · have hT' := Blk.touch hT hkeep (fun h => h)
      have c0 := rtab0 hT' hlt
      have c1 := rtab1 hT' hlt
      obtain ⟨w2, w3, w4⟩ := w1 k hlt
      clear w1
      cases hon : (R k).on with
      | true =>
        rw [hon] at c1
        have w5 := w4 hon
        have hall := allK_on hon
        have H3 := Lib.hid hall
        clear hon w4 hall
        go_wp2_with (at_builtin; refine wpList_append_own _ rfl _ _ 30 rfl w.heap.size 3 i0 (.int .i64 0) 1 8 Try.underlying30 hi hz0 hz1 hz2 rfl (by decide) _ _ _ rfl (hown'.alloc _) ⟨wr.heap.size, 0, none⟩ 1 1 [.int .i64 (64 * ((R k).n - 1) + k + 1)] rfl rfl ?c1 ?c2 ?c3 ?c4 ?c5 ?_)
        case c1 => exact cell_one_at _ _ _ _ rfl
        case c2 => simp [Value.oneCell']
        case c3 => unfold maxLen; omega
        case c4 => omega
        case c5 => simp; omega
        intro v' w1 hown2 hgr _
        go_wp2_with fail
        go_roundw
        case rel =>
          refine ⟨k + 1, by omega, by go_num, ?_, ?_⟩
          · unfold OwnInts; rw [H3.out, ints_snoc, List.length_append]; exact hown2
          · exact (hkeep.alloc _).grown hgr fun g hg hlt => absurd hlt (by have := (HB.out g hg).1; omega)
        case measure => simp [intOf]; omega
      | false =>
        rw [hon] at c1
        have hall := allK_off hon
        have H3 := Lib.hid hall
        clear hon w4 hall
        go_wp2_with fail
        go_roundw
        case rel =>
          refine ⟨k + 1, by omega, by go_num, ?_, ?_⟩
          · unfold OwnInts; rw [H3.out]; exact hown'
          · exact hkeep
        case measure => simp [intOf]; omega
    · go_wp2_with fail
      have e : k = 64 := by omega
      subst e
      go_ret
      obtain ⟨ad, cap, hf⟩ := hown.form
      exact ⟨ad, cap, congrArg Ending.returned hf, by rw [← show u3 = Value.slice ad (allT R).length cap from hf]; exact hown, hkeep⟩

def placeI (R : Nat → Pl) (h : Int) : Int :=
  match findT R h with
  | none => -1
  | some i => i
theorem find_some_iff {R : Nat → Pl} {N : Int} (hw : WF R N) {h : Int} {i : Nat} (hi : i < 64) : findT R h = some i ↔ (R i).on = true ∧ hnd (R i) i = h := by
  obtain ⟨a, b, c⟩ := hw.2 i hi
  constructor
  · intro e
    unfold findT at e
    split at e
    · rename_i q
      simp only [Option.some.injEq] at e
      rw [e] at q
      exact ⟨q.2.1, q.2.2⟩
    · cases e
  · rintro ⟨h1, rfl⟩
    have := c h1
    have e : ((hnd (R i) i - 1) % 64).toNat = i := by unfold hnd; omega
    unfold findT
    rw [e, if_pos ⟨by unfold hnd; omega, h1, rfl⟩]

set_option maxHeartbeats 1000000 in
theorem rplace_any (b : Nat) (R : Nat → Pl) (h : Int) (w : World) (N : Int) (hT : RTab w b R) (hw : WF R N) :
    Calls Try.prog 20 #[.pointer (some ⟨b, 0, none⟩), .int .i64 h] w fun e w' => e = .returned (.int .i64 (placeI R h)) ∧ w = w' := by
  have HW := Lib.hid (fun i (hi : i < 64) => find_some_iff hw (h := h) hi)
  obtain ⟨w0, w1⟩ := hw
  go_enter Try.func20, Try.ntmps20
  go_wp2_with fail
  go_loop [5] (fun i => ∃ k : Nat, k ≤ 64 ∧ i = .int .i64 k ∧ ∀ j, j < k → findT R h ≠ some j) (fun i => 64 - (intOf i).toNat)
  case atStart => exact ⟨0, by omega, rfl, fun j h => by omega⟩
  case round =>
    obtain ⟨k, hk, rfl, hall⟩ := hrel
    have HA := Lib.hid hall
    clear hall
    by_cases hlt : k < 64
    · have c0 := rtab0 hT hlt
      have c1 := rtab1 hT hlt
      obtain ⟨w2, w3, w4⟩ := w1 k hlt
      clear w1
      cases hon : (R k).on with
      | true =>
        rw [hon] at c1
        have w5 := w4 hon
        by_cases e : hnd (R k) k = h
        · have H3 := Lib.hid ((HW.out k hlt).2 ⟨hon, e⟩)
          have hq : (h == 64 * ((R k).n - 1) + (k : Int) + 1) = true := by unfold hnd at e; rw [beq_iff_eq]; omega
          clear hon e w4
          go_wp2_with fail
          go_ret
          exact ⟨by simp [placeI, H3.out], rfl⟩
        · have H3 := Lib.hid (show findT R h ≠ some k from fun q => e ((HW.out k hlt).1 q).2)
          have hq : (h == 64 * ((R k).n - 1) + (k : Int) + 1) = false := by unfold hnd at e; rw [beq_eq_false_iff_ne]; omega
          clear hon e w4
          go_wp2_with fail
          go_round
          case rel => exact ⟨k + 1, by omega, by go_num, fun j h => by
            rcases (by omega : j < k ∨ j = k) with h' | rfl
            · exact HA.out j h'
            · exact H3.out⟩
          case measure => simp [intOf]; omega
      | false =>
        rw [hon] at c1
        have H3 := Lib.hid (show findT R h ≠ some k from fun q => by have := ((HW.out k hlt).1 q).1; rw [hon] at this; cases this)
        clear hon w4
        go_wp2_with fail
        go_round
        case rel => exact ⟨k + 1, by omega, by go_num, fun j h => by
          rcases (by omega : j < k ∨ j = k) with h' | rfl
          · exact HA.out j h'
          · exact H3.out⟩
        case measure => simp [intOf]; omega
    · go_wp2_with fail
      go_ret
      have hn : findT R h = none := by
        cases e : findT R h with
        | none => rfl
        | some i => exact absurd e (HA.out i (by have := findT_lt e; omega))
      exact ⟨by simp [placeI, hn], rfl⟩

set_option maxHeartbeats 1000000 in
theorem rnew_any (b : Nat) (T : Nat → Pl) (x : Int) (w : World) (N : Int) (hT : RTab w b T) (hw : WF T N) (hN : N ≤ 99999) :
    Calls Try.prog 21 #[.pointer (some ⟨b, 0, none⟩), .int .i64 x] w fun e w' => e = .returned (.tuple #[.int .i64 (newA T), .int .i64 (newE T)]) ∧ RTab w' b (newT T x) ∧ Only b w w' := by
  obtain ⟨w0, w1⟩ := hw
  go_enter Try.func21, Try.ntmps21
  go_wp2_with fail
  go_loop [6] (fun i => ∃ k : Nat, k ≤ 64 ∧ i = .int .i64 k ∧ ∀ m, m < k → (T m).on = true) (fun i => 64 - (intOf i).toNat)
  case atStart => exact ⟨0, by omega, rfl, fun m h => by omega⟩
  case round =>
    obtain ⟨k, hk, rfl, hm⟩ := hrel
    have HM := Lib.hid hm
    clear hm
    by_cases hlt : k < 64
    · have c0 := rtab0 hT hlt
      have c1 := rtab1 hT hlt
      have c2 := rtab2 hT hlt
      have f0 := Blk.frozen hT k
      have f1 := Blk.frozen hT (64 + k)
      have f2 := Blk.frozen hT (128 + k)
      obtain ⟨w2, w3, w4⟩ := w1 k hlt
      clear w1
      cases hon : (T k).on with
      | true =>
        rw [hon] at c1
        have H3 := Lib.hid hon
        clear hon w4
        go_wp2_with fail
        go_round
        case rel => exact ⟨k + 1, by omega, by go_num, fun m h => by
          rcases (by omega : m < k ∨ m = k) with h' | rfl
          · exact HM.out m h'
          · exact H3.out⟩
        case measure => simp [intOf]; omega
      | false =>
        rw [hon] at c1
        have hfr : freeT T 64 0 = some k := freeT_some 64 0 k (by omega) (by omega) (fun m _ h => HM.out m h) hon
        have H3 := Lib.hid hfr
        clear hfr hon w4
        go_wp2_with fail
        have hR := rset2 (rset1 hT hlt true) hlt x
        have c0' := rtab0 hR hlt
        have f0' := Blk.frozen hR k
        have e0 : ((setT (setT T k { T k with on := true }) k { setT T k { T k with on := true } k with x := x }) k).n = (T k).n := by simp [setT]
        rw [e0] at c0'
        have hO : Only b w ((w.setCell ⟨b, 64 + k, none⟩ (.bool true)).setCell ⟨b, 128 + k, none⟩ (.int .i64 x)) := ((Only.refl b w).set _ _).set _ _
        clear e0 f0 f1 f2 c0 c1 c2
        generalize ((w.setCell ⟨b, 64 + k, none⟩ (.bool true)).setCell ⟨b, 128 + k, none⟩ (.int .i64 x)) = w3 at *
        go_still_tail 10, (by kernel_rfl)
        change wpList _ _ _ _ _ w3.drew
        have hR3 := rset0 (w := w3.drew) hR hlt ((T k).n + 1)
        have c3 := rtab0 hR3 hlt
        have e3 : ((setT (setT (setT T k { T k with on := true }) k { setT T k { T k with on := true } k with x := x }) k { setT (setT T k { T k with on := true }) k { setT T k { T k with on := true } k with x := x } k with n := (T k).n + 1 }) k).n = (T k).n + 1 := by simp [setT]
        rw [e3] at c3
        clear e3
        go_wp2_with fail
        go_ret2
        refine ⟨by simp [newA, newE, H3.out, hnd], ?_, hO.drew.set _ _⟩
        unfold newT
        rw [H3.out]
        refine Blk.congr hR3 (fun j _ => ?_)
        congr 1
        funext i
        unfold setT
        by_cases e : i = k
        · subst e; simp
        · simp [e]
    · have hfr : freeT T 64 0 = none := freeT_none 64 0 (fun m _ h => HM.out m (by omega))
      have H3 := Lib.hid hfr
      clear hfr w1
      go_wp2_with fail
      go_ret2
      refine ⟨by simp [newA, newE, H3.out], ?_, Touch.refl _ _⟩
      unfold newT
      rw [H3.out]
      exact hT

end Go.Proofs.Ytnjjecojedlccaa
