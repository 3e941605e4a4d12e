/- The methods of handle.Table by contracts: All, Len. -/
import Derived.Test.YtnjjecojedlccaaHan2
namespace Go.Proofs.Ytnjjecojedlccaa
open Go.RowKit

def allK (T : Nat → Pl) (k : Nat) : List Int := (List.range k).filterMap fun i => if (T i).on then some (hnd (T i) i) else none
def allT (T : Nat → Pl) : List Int := allK T 64
theorem allK_on {T : Nat → Pl} {k : Nat} (h : (T k).on = true) : allK T (k + 1) = allK T k ++ [hnd (T k) k] := by
  simp [allK, List.range_succ, List.filterMap_append, h]
theorem allK_off {T : Nat → Pl} {k : Nat} (h : (T k).on = false) : allK T (k + 1) = allK T k := by
  simp [allK, List.range_succ, List.filterMap_append, h]
theorem allK_len (T : Nat → Pl) (k : Nat) : (allK T k).length ≤ k := by
  have := List.length_filterMap_le (fun i => if (T i).on then some (hnd (T i) i) else none) (List.range k)
  simpa [allK] using this
theorem allT_len (T : Nat → Pl) : (allT T).length ≤ 64 := allK_len T 64

/-- Integers as cells. -/
def ints (l : List Int) : List Value := l.map (Value.int .i64)
theorem ints_len (l : List Int) : (ints l).length = l.length := by simp [ints]
theorem ints_snoc (l : List Int) (x : Int) : ints (l ++ [x]) = ints l ++ [.int .i64 x] := by simp [ints]
/-- A list of ints of the call's own. -/
def OwnInts (w : World) (base : Nat) (v : Value) (l : List Int) : Prop := w.ownsRow base 3 1 v l.length (ints l)
theorem OwnInts.keep {w w' : World} {base B : Nat} {v : Value} {l : List Int} {S : Nat → Prop} (h : OwnInts w base v l) (ht : Touch S w w') (hs : ∀ k, S k → k < base) (_hB : B ≤ base) : OwnInts w' base v l := by
  unfold OwnInts at *
  refine ⟨h.1, ?_⟩
  rcases h.2 with hn | ⟨g, cap, cur, rfl, hb, hgg, rest⟩
  · exact .inl hn
  · refine .inr ⟨g, cap, cur, rfl, hb, ?_, rest⟩
    rw [ht.block g (Array.getElem?_eq_some_iff.1 hgg).1 (fun hx => by have := hs g hx; omega)]
    exact hgg

theorem OwnInts.form {w : World} {base : Nat} {v : Value} {l : List Int} (h : OwnInts w base v l) : ∃ ad cap, v = .slice ad l.length cap := by
  rcases h.2 with ⟨rfl, h0⟩ | ⟨g, cap, cur, rfl, _⟩
  · exact ⟨none, 0, by rw [h0]⟩
  · exact ⟨_, _, rfl⟩

def tabArr (T : Nat → Pl) : Array Value := Array.ofFn (n := 192) fun j => tabF T j.val
theorem tabArr_size (T : Nat → Pl) : (tabArr T).size = 192 := by simp [tabArr]
theorem tabArr_get (T : Nat → Pl) (j : Nat) (h : j < 192) : (tabArr T)[j]? = some (tabF T j) := by simp [tabArr, h]

theorem tab_info : (Try.prog.info? 27).map (·.size) = some 192 := by kernel_rfl
theorem place_info : (Try.prog.info? 26).map (·.size) = some 3 := by kernel_rfl
theorem Try.info3 : (Try.prog.info? 3).map (fun i => (i.zero, i.size, i.bytes)) = some (some (.int .i64 0), 1, 8) := by kernel_rfl

theorem index_tab (T : Nat → Pl) (k : Nat) (hk : k < 64) (w : World) :
    (Instr.index 27 (.agg (tabArr T)) (.int .i64 (k : Int))).run Try.prog w = .ok (.agg #[.int .i64 (T k).n, .bool (T k).on, .int .i64 (T k).x]) w := by
  obtain ⟨i, hi, hs⟩ : ∃ i, Try.prog.info? 26 = some i ∧ i.size = 3 := by
    have h := place_info
    cases hq : Try.prog.info? 26 with
    | none => simp [hq] at h
    | some i => exact ⟨i, rfl, by simpa [hq] using h⟩
  have hex : (tabArr T).extract (k * 3) (k * 3 + 3) = #[.int .i64 (T k).n, .bool (T k).on, .int .i64 (T k).x] := by
    have e1 : (k * 3 + 1) / 3 = k := by omega
    have e2 : (k * 3 + 1) % 3 = 1 := by omega
    have e3 : (k * 3 + 2) / 3 = k := by omega
    have e4 : (k * 3 + 2) % 3 = 2 := by omega
    apply Array.ext
    · simp [tabArr_size]; omega
    · intro j h1 h2
      simp only [List.size_toArray, List.length_cons, List.length_nil] at h2
      rcases (by omega : j = 0 ∨ j = 1 ∨ j = 2) with rfl | rfl | rfl <;> simp [tabArr, tabF, e1, e2, e3, e4]
  simp [Instr.index, asIntOf, run_underlying Try.underlying27, part, isAgg, run_underlying Try.underlying26, sizeOf, typeInfo, hi, hs, hex]
  intro h; omega

set_option maxHeartbeats 1000000 in
theorem all_any (b : Nat) (T : Nat → Pl) (w : World) (N : Int) (hT : Tab w b T) (hw : WF T N) :
    Calls Try.prog 10 #[.pointer (some ⟨b, 0, none⟩)] w fun e w' => ∃ ad cap, e = .returned (.slice ad (allT T).length cap) ∧ OwnInts w' w.heap.size (.slice ad (allT T).length cap) (allT T) ∧ Keeps w w' := by
  obtain ⟨w0, w1⟩ := hw
  obtain ⟨i0, hi, hz0, hz1, hz2⟩ := info_parts Try.info3
  have hg : w.heap[b]? = some (.cells (tabArr T) 29 (0, 0)) := hT
  have HG := Lib.hid hg
  clear hg
  go_enter Try.func10, Try.ntmps10
  go_wp2_with (refine wpList_load_row rfl 27 _ rfl b rfl _ (tabArr T) _ _ HG.out Try.underlying27 rfl (by rw [tabArr_size]; exact tab_info) ?_)
  go_loopw [3, 12] (fun v i wr => ∃ k : Nat, k ≤ 64 ∧ i = .int .i64 k ∧ OwnInts wr w.heap.size v (allK T k) ∧ Keeps w wr) (fun _ i _ => 64 - (intOf i).toNat)
  case atStart => exact ⟨0, by omega, rfl, World.ownsRow_nil _ _ _ _, Touch.refl _ _⟩
  case round =>
    obtain ⟨k, hk, rfl, hown, hkeep⟩ := hrel
    have hown' : wr.ownsRow w.heap.size 3 1 u3 (allK T k).length (ints (allK T k)) := hown
    have HB := Lib.hid hown'.lt
    have hlen := allK_len T k
    have hsz := hkeep.size
    by_cases hlt : k < 64
    · have hidx := index_tab T k hlt
      obtain ⟨w2, w3, w4⟩ := w1 k hlt
      clear w1
      cases hon : (T k).on with
      | true =>
        rw [hon] at hidx
        have w5 := w4 hon
        have hall := allK_on hon
        have H3 := Lib.hid hall
        clear hon w4 hall
        go_wp2_with fail
        refine (handle_any _ _ _ _ _ w5 (by omega) (by omega) (by omega)).mono ?_
        rintro e w' ⟨rfl, rfl⟩
        go_wp2_with (at_builtin; refine wpList_append_own _ rfl _ _ 30 rfl w.heap.size 3 i0 (.int .i64 0) 1 8 Try.underlying30 hi hz0 hz1 hz2 rfl (by decide) _ _ _ rfl (((hown'.alloc _).alloc _).alloc _) ⟨wr.heap.size + 2, 0, none⟩ 1 1 [.int .i64 (64 * ((T k).n - 1) + k + 1)] rfl rfl ?c1 ?c2 ?c3 ?c4 ?c5 ?_)
        case c1 => exact cell_one_at _ _ _ _ (by simp)
        case c2 => simp [Value.oneCell']
        case c3 => unfold maxLen; omega
        case c4 => omega
        case c5 => simp; omega
        intro v' w1 hown2 hgr _
        go_wp2_with fail
        go_roundw
        case rel =>
          refine ⟨k + 1, by omega, by go_num, ?_, ?_⟩
          · unfold OwnInts; rw [H3.out, ints_snoc, List.length_append]; exact hown2
          · exact (((hkeep.alloc _).alloc _).alloc _).grown hgr fun g hg hlt => absurd hlt (by have := (HB.out g hg).1; omega)
        case measure => simp [intOf]; omega
      | false =>
        rw [hon] at hidx
        have hall := allK_off hon
        have H3 := Lib.hid hall
        clear hon w4 hall
        go_wp2_with fail
        go_roundw
        case rel =>
          refine ⟨k + 1, by omega, by go_num, ?_, ?_⟩
          · unfold OwnInts; rw [H3.out]; exact hown'.alloc _
          · exact hkeep.alloc _
        case measure => simp [intOf]; omega
    · go_wp2_with fail
      have e : k = 64 := by omega
      subst e
      go_ret
      obtain ⟨ad, cap, hf⟩ := hown.form
      exact ⟨ad, cap, congrArg Ending.returned hf, by rw [← show u3 = Value.slice ad (allT T).length cap from hf]; exact hown, hkeep⟩

theorem len_any (b : Nat) (T : Nat → Pl) (w : World) (N : Int) (hT : Tab w b T) (hw : WF T N) :
    Calls Try.prog 13 #[.pointer (some ⟨b, 0, none⟩)] w fun e w' => e = .returned (.int .i64 (allT T).length) ∧ Keeps w w' := by
  go_enter Try.func13, Try.ntmps13
  go_wp2_with fail
  refine (all_any b T _ N hT hw).mono ?_
  rintro e w1 ⟨ad, cap, rfl, hown, hk⟩
  go_wp2_with fail
  go_ret
  exact ⟨rfl, hk⟩

end Go.Proofs.Ytnjjecojedlccaa
