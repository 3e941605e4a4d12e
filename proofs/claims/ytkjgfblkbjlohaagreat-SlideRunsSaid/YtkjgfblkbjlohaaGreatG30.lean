/- slices.Compact by the shelf's contract, laid at this program (the tables of numbers are what the kit's tool writes); slices.IsSorted, cmp.Less. -/
import Derived.Shelf.Slices.CompactI
import Derived.Test.YtkjgfblkbjlohaaGreatG22
set_option linter.all false

namespace Go.Proofs.YtkjgfblkbjlohaaGreat
open Go.Shelf Go.RowKit

def lays20_ren : Go.Shelf.Ren := ⟨fun | 20 => 26 | n => n, fun | 3 => 3 | 4 => 4 | 22 => 34 | n => n, fun | n => n⟩
theorem lays20 : Go.Proofs.Lays2.n20 Tryz.prog lays20_ren := {
  mixed := by kernel_rfl
  f20 := Tryz.func26.trans (congrArg some (by kernel_rfl))
  t0 := Tryz.underlying0
  a0 := Tryz.isAgg0
  z0 := Tryz.sizeOf0
  v0 := Tryz.zeroValue0
  t3 := Tryz.underlying3
  a3 := Tryz.isAgg3
  z3 := Tryz.sizeOf3
  v3 := Tryz.zeroValue3
  t4 := Tryz.underlying4
  a4 := Tryz.isAgg4
  z4 := Tryz.sizeOf4
  v4 := Tryz.zeroValue4
  t22 := Tryz.underlying34
  a22 := Tryz.isAgg34
  z22 := Tryz.sizeOf34
  v22 := Tryz.zeroValue34
  i3 := by kernel_rfl }

theorem putRow_only {α : Type} [Inhabited α] (enc : α → Value) (w : World) (b off : Nat) (d : Array α) (q : Nat) : Only b w (Go.Sort.putRow enc (Go.Sort.ahead w q) b off d) :=
  ⟨rfl, rfl, rfl, by simp, fun k hk hn => by
    unfold Go.Sort.putRow Go.Sort.mapBlock
    simp only [Array.getElem?_modify]
    rw [if_neg (fun h => hn h.symm)]; rfl⟩
theorem keeps_iff (l : List Int) (j : Nat) : Go.Lib.keeps l.toArray j = true ↔ (j = 0 ∨ l[j]! ≠ l[j - 1]!) := by
  unfold Go.Lib.keeps; simp
theorem getBang (l : List Int) (i : Nat) (h : i < l.length) : l[i]! = l.getD i 0 := by
  rw [getElem!_pos l i h, List.getD_eq_getElem?_getD, List.getElem?_eq_getElem h]; rfl
theorem compact_len (l : List Int) : (Go.Lib.compactUpTo l.toArray l.toArray.size).length = l.length ↔ ∀ i, i + 1 < l.length → l.getD i 0 ≠ l.getD (i + 1) 0 := by
  unfold Go.Lib.compactUpTo
  rw [List.length_map, List.size_toArray]
  have h1 : (List.filter (Go.Lib.keeps l.toArray) (List.range l.length)).length = l.length ↔ ∀ j ∈ List.range l.length, Go.Lib.keeps l.toArray j = true := by
    conv => lhs; rhs; rw [← List.length_range (n := l.length)]
    exact List.length_filter_eq_length_iff
  rw [h1]
  refine ⟨fun h i hi => ?_, fun h j hj => ?_⟩
  · have := (keeps_iff l (i + 1)).1 (h (i + 1) (List.mem_range.2 hi))
    rcases this with h0 | h0
    · omega
    · rw [getBang l _ hi, Nat.add_sub_cancel, getBang l i (by omega)] at h0
      exact fun e => h0 e.symm
  · have hj := List.mem_range.1 hj
    rw [keeps_iff]
    by_cases h0 : j = 0
    · exact .inl h0
    · right
      rw [getBang l j hj, getBang l (j - 1) (by omega)]
      have := h (j - 1) (by omega)
      rw [Nat.sub_add_cancel (by omega)] at this
      exact fun e => this e.symm
def CompactOut (v : Value) (l : List Int) (w : World) (e : Ending) (w' : World) : Prop :=
  ∃ ad k cp, e = .returned (.slice ad k cp) ∧ (k = l.length ↔ ∀ i, i + 1 < l.length → l.getD i 0 ≠ l.getD (i + 1) 0) ∧ Touch (fun b => v.ownBlock = some b) w w'
/-- The call's own list, without what stands twice in a row: only its length is told. -/
theorem compact_any (v : Value) (l : List Int) (w : World) (base : Nat) (h : OwnInts w base v l) (hl : l.length ≤ 100000) :
    Calls Tryz.prog 26 #[v] w (CompactOut v l w) := by
  rcases h.2 with ⟨rfl, h0⟩ | ⟨g, cap, cur, rfl, hb, hg, h1, h2, h3, h4⟩
  · rw [List.length_eq_zero_iff] at h0
    subst h0
    refine (Any.slices_Compact_int_empty lays20 none 0 w).mono ?_
    rintro e w' ⟨rfl, rfl⟩
    exact ⟨none, 0, 0, rfl, by simp, Touch.refl _ _⟩
  · have hsz : l.toArray.size = l.length := by simp
    have hH : Go.Sort.Holds (Value.int .i64) w g 0 l.toArray := fun j hj => by
      rw [hsz] at hj
      rw [Nat.zero_add]
      have hx : (ints l)[j]? = some (.int .i64 l.toArray[j]!) := by
        unfold ints
        rw [List.getElem?_map, List.getElem?_eq_getElem hj]
        simp [hj]
      have hj' : j < cur.size := by rw [h3]; omega
      rw [← h4, List.getElem?_take, if_pos (by omega), Array.getElem?_toList, Array.getElem?_eq_getElem hj'] at hx
      refine ⟨?_, ?_⟩
      · rw [cell_of_row w g j cur _ (0, 0) hg, Array.getElem?_eq_getElem hj']; exact hx
      · exact frozen_of_row w g j cur _ hg
    have hc := Any.slices_Compact_int_arr lays20 g 0 cap l.toArray w hH (by rw [hsz]; omega) (by rw [hsz]; exact h1)
    rw [hsz] at hc
    refine hc.mono ?_
    rintro e w' ⟨rfl, q, rfl⟩
    have hcl := compact_len l
    rw [hsz] at hcl
    exact ⟨_, _, _, rfl, hcl, (putRow_only _ w g 0 _ q).mono (fun x hx _ => by show some g = some x; rw [hx])⟩

/-- It answers b. -/
def Says (b : Bool) (w : World) (e : Ending) (w' : World) : Prop := e = .returned (.bool b) ∧ Keeps w w'
theorem isNaN_any (x : Int) (w : World) : Calls Tryz.prog 91 #[.int .i64 x] w fun e w' => e = .returned (.bool false) ∧ w = w' := by
  go_enter Tryz.func91, Tryz.ntmps91
  go_wp2_with fail
  go_ret
  exact ⟨by simp, rfl⟩
theorem less_any (x y : Int) (w : World) : Calls Tryz.prog 69 #[.int .i64 x, .int .i64 y] w fun e w' => e = .returned (.bool (decide (x < y))) ∧ w = w' := by
  have HN := Lib.hid isNaN_any
  go_enter Tryz.func69, Tryz.ntmps69
  go_wp2_with fail
  refine Calls.mono (HN.out _ _) ?_
  rintro e w' ⟨rfl, rfl⟩
  go_wp2_with fail
  go_ret
  exact ⟨by simp, rfl⟩
def SortedOut (P : Prop) (w : World) (e : Ending) (w' : World) : Prop := ∃ b : Bool, e = .returned (.bool b) ∧ (b = true ↔ P) ∧ Keeps w w'
set_option maxHeartbeats 1000000 in
theorem sorted_any (A : Option Addr) (n cap : Nat) (Z : Nat → Int) (w : World) (hr : Rd w A n (intF .i64 Z)) (hn : n ≤ 100000) :
    Calls Tryz.prog 25 #[.slice A n cap] w (SortedOut (∀ i, i + 1 < n → Z i ≤ Z (i + 1)) w) := by
  have HL := Lib.hid less_any
  go_enter Tryz.func25, Tryz.ntmps25
  go_wp2_with fail
  go_loopw [3] (fun s wr => ∃ i : Int, -1 ≤ i ∧ i < n ∧ (i = -1 → n = 0) ∧ s = .int .i64 i ∧ (∀ j : Nat, i < j + 1 → j + 1 < n → Z j ≤ Z (j + 1)) ∧ Keeps w wr) (fun s _ => (intOf s + 1).toNat)
  case atStart => exact ⟨(n : Int) - 1, by omega, by omega, by omega, rfl, fun j h1 h2 => by omega, Touch.refl _ _⟩
  case round =>
    obtain ⟨wo, rfl⟩ : ∃ wo : World, wo = wr := ⟨_, rfl⟩
    obtain ⟨i, hi0, hi1, hi2, rfl, hall, K⟩ := hrel
    have HA := Lib.hid hall
    clear hall
    by_cases hlt : 0 < i
    · obtain ⟨q, rfl⟩ : ∃ q : Nat, i = q := ⟨i.toNat, by omega⟩
      obtain ⟨k, hqk⟩ : ∃ k : Nat, q = k + 1 := ⟨q - 1, by omega⟩
      obtain ⟨b, off, rfl, c1⟩ := (hr.keep K).one (k := q) (by omega)
      have d1 : wo.cell? ⟨b, off + q, none⟩ = some (.int .i64 (Z q)) := c1
      obtain ⟨b', off', he, c2⟩ := (hr.keep K).one (k := k) (by omega)
      simp only [Option.some.injEq, Addr.mk.injEq, and_true] at he
      obtain ⟨rfl, rfl⟩ := he
      have d2 : wo.cell? ⟨b, off + k, none⟩ = some (.int .i64 (Z k)) := c2
      clear c1 c2
      have g1 : IntKind.i64.wrap ((q : Int) - 1) = k := by rw [IntWalk.i64_in _ ⟨by omega, by omega⟩]; omega
      have hqn : q < n := by omega
      have hkn : k < n := by omega
      have HQ := Lib.hid hqk
      clear hqk
      generalize hy : Z q = y at *
      have HY := Lib.hid hy
      clear hy
      go_wp2_with fail
      cases hc : decide (y < Z k) with
      | true =>
        have HC := Lib.hid (decide_eq_true_iff.1 hc)
        have HL1 := Lib.hid (show ∀ w, Calls Tryz.prog 69 #[.int .i64 y, .int .i64 (Z k)] w fun e w' => e = .returned (.bool true) ∧ w = w' from fun w => by rw [← hc]; exact HL.out y (Z k) w)
        clear hc HL
        refine wp_region_noPanic ?_
        refine wp_region_held_drew (S := (fun w' => Keeps wo w')) (by kernel_rfl) (Touch.refl _ wo).drew (fun hHeld => ?_)
        refine' wpAnyH_take (i := 0) ?hi0_1 ?hs0_1 ?hf0_1 ?hr0_1 ?hQ0_1 ?hy0_1 (by assumption) ?rest0_1
        case hi0_1 => simp only [List.getElem?_toArray, List.getElem?_cons_zero] <;> rfl
        case hs0_1 => kernel_rfl
        case hf0_1 => kernel_rfl
        case hr0_1 => kernel_rfl
        case hQ0_1 => exact fun _ _ _ h => h
        case hy0_1 => exact Or.inl ⟨by rfl, fun w hSw => by have q1 := cell_keep d1 hSw; have q2 := cell_keep d2 hSw; go_simp <;> (try with_reducible rfl)⟩
        simp only [Act.put, List.setIfInBounds_toArray, List.set_cons_zero, List.set_cons_succ]
        refine' wpAnyH_take (i := 1) ?hi1_1 ?hs1_1 ?hf1_1 ?hr1_1 ?hQ1_1 ?hy1_1 (by assumption) ?rest1_1
        case hi1_1 => simp only [List.getElem?_toArray, List.getElem?_cons_succ, List.getElem?_cons_zero] <;> rfl
        case hs1_1 => kernel_rfl
        case hf1_1 => kernel_rfl
        case hr1_1 => kernel_rfl
        case hQ1_1 => exact fun _ _ _ h => h
        case hy1_1 => exact Or.inl ⟨by rfl, fun w hSw => by have q1 := cell_keep d1 hSw; have q2 := cell_keep d2 hSw; go_simp <;> (try with_reducible rfl)⟩
        simp only [Act.put, List.setIfInBounds_toArray, List.set_cons_zero, List.set_cons_succ]
        refine' wpAnyH_take (i := 2) ?hi2_1 ?hs2_1 ?hf2_1 ?hr2_1 ?hQ2_1 ?hy2_1 (by assumption) ?rest2_1
        case hi2_1 => simp only [List.getElem?_toArray, List.getElem?_cons_succ, List.getElem?_cons_zero] <;> rfl
        case hs2_1 => kernel_rfl
        case hf2_1 => kernel_rfl
        case hr2_1 => kernel_rfl
        case hQ2_1 => exact fun _ _ _ h => h
        case hy2_1 => exact Or.inl ⟨by rfl, fun w hSw => by have q1 := cell_keep d1 hSw; have q2 := cell_keep d2 hSw; go_simp <;> (try with_reducible rfl)⟩
        simp only [Act.put, List.setIfInBounds_toArray, List.set_cons_zero, List.set_cons_succ]
        refine' wpAnyH_take (i := 3) ?hi3_1 ?hs3_1 ?hf3_1 ?hr3_1 ?hQ3_1 ?hy3_1 (by assumption) ?rest3_1
        case hi3_1 => simp only [List.getElem?_toArray, List.getElem?_cons_succ, List.getElem?_cons_zero] <;> rfl
        case hs3_1 => kernel_rfl
        case hf3_1 => kernel_rfl
        case hr3_1 => kernel_rfl
        case hQ3_1 => exact fun _ _ _ h => h
        case hy3_1 => exact Or.inl ⟨by rfl, fun w hSw => by have q1 := cell_keep d1 hSw; have q2 := cell_keep d2 hSw; go_simp <;> (try with_reducible rfl)⟩
        simp only [Act.put, List.setIfInBounds_toArray, List.set_cons_zero, List.set_cons_succ]
        refine' wpAnyH_take (i := 4) ?hi4_1 ?hs4_1 ?hf4_1 ?hr4_1 ?hQ4_1 ?hy4_1 (by assumption) ?rest4_1
        case hi4_1 => simp only [List.getElem?_toArray, List.getElem?_cons_succ, List.getElem?_cons_zero] <;> rfl
        case hs4_1 => kernel_rfl
        case hf4_1 => kernel_rfl
        case hr4_1 => kernel_rfl
        case hQ4_1 => exact fun _ _ _ h => h
        case hy4_1 => exact Or.inl ⟨by rfl, fun w hSw => by have q1 := cell_keep d1 hSw; have q2 := cell_keep d2 hSw; go_simp <;> (try with_reducible rfl)⟩
        simp only [Act.put, List.setIfInBounds_toArray, List.set_cons_zero, List.set_cons_succ]
        refine' wpAnyH_take (i := 5) ?hi5_1 ?hs5_1 ?hf5_1 ?hr5_1 ?hQ5_1 ?hy5_1 (by assumption) ?rest5_1
        case hi5_1 => simp only [List.getElem?_toArray, List.getElem?_cons_succ, List.getElem?_cons_zero] <;> rfl
        case hs5_1 => kernel_rfl
        case hf5_1 => kernel_rfl
        case hr5_1 => kernel_rfl
        case hQ5_1 => exact fun _ _ _ h => h
        case hy5_1 => exact Or.inl ⟨by rfl, fun w hSw => by have q1 := cell_keep d1 hSw; have q2 := cell_keep d2 hSw; go_simp <;> (try with_reducible rfl)⟩
        simp only [Act.put, List.setIfInBounds_toArray, List.set_cons_zero, List.set_cons_succ]
        refine' wpAnyH_take (i := 6) ?hi6_1 ?hs6_1 ?hf6_1 ?hr6_1 ?hQ6_1 ?hy6_1 (by assumption) ?rest6_1
        case hi6_1 => simp only [List.getElem?_toArray, List.getElem?_cons_succ, List.getElem?_cons_zero] <;> rfl
        case hs6_1 => kernel_rfl
        case hf6_1 => kernel_rfl
        case hr6_1 => kernel_rfl
        case hQ6_1 => exact fun _ _ _ h => h
        case hy6_1 => exact Or.inl ⟨by rfl, fun w hSw => by have q1 := cell_keep d1 hSw; have q2 := cell_keep d2 hSw; go_simp <;> (try with_reducible rfl)⟩
        simp only [Act.put, List.setIfInBounds_toArray, List.set_cons_zero, List.set_cons_succ]
        refine' wpAnyH_take (i := 7) ?hi7_1 ?hs7_1 ?hf7_1 ?hr7_1 ?hQ7_1 ?hy7_1 (by assumption) ?rest7_1
        case hi7_1 => simp only [List.getElem?_toArray, List.getElem?_cons_succ, List.getElem?_cons_zero] <;> rfl
        case hs7_1 => kernel_rfl
        case hf7_1 => kernel_rfl
        case hr7_1 => kernel_rfl
        case hQ7_1 => exact fun _ _ _ h => h
        case hy7_1 => exact Or.inl ⟨by rfl, fun w hSw => by have q1 := cell_keep d1 hSw; have q2 := cell_keep d2 hSw; go_simp <;> (try with_reducible rfl)⟩
        simp only [Act.put, List.setIfInBounds_toArray, List.set_cons_zero, List.set_cons_succ]
        refine' wpAnyH_take (i := 8) ?hi8_1 ?hs8_1 ?hf8_1 ?hr8_1 ?hQ8_1 ?hy8_1 (by assumption) ?rest8_1
        case hi8_1 => simp only [List.getElem?_toArray, List.getElem?_cons_succ, List.getElem?_cons_zero] <;> rfl
        case hs8_1 => kernel_rfl
        case hf8_1 => kernel_rfl
        case hr8_1 => kernel_rfl
        case hQ8_1 => exact fun _ _ _ h => h
        case hy8_1 => exact Or.inl ⟨by rfl, fun w hSw => by have q1 := cell_keep d1 hSw; have q2 := cell_keep d2 hSw; go_simp <;> (try with_reducible rfl)⟩
        simp only [Act.put, List.setIfInBounds_toArray, List.set_cons_zero, List.set_cons_succ]
        refine' take_call (i := 9) ?hi9_1 ?hs9_1 ?hf9_1 ?hr9_1 ?hQ9_1 ?hy9_1 (by assumption) ?rest9_1
        case hi9_1 => simp only [List.getElem?_toArray, List.getElem?_cons_succ, List.getElem?_cons_zero] <;> rfl
        case hs9_1 => kernel_rfl
        case hf9_1 => kernel_rfl
        case hr9_1 => kernel_rfl
        case hQ9_1 => exact fun _ _ _ h => h
        case hy9_1 => exact ⟨by rfl, fun w hSw => ⟨69, #[.int .i64 y, .int .i64 (Z k)], by go_simp <;> (try with_reducible rfl), HL1.out _⟩⟩
        simp only [Act.put, List.setIfInBounds_toArray, List.set_cons_zero, List.set_cons_succ]
        refine wpAnyH_done (by kernel_rfl) ?_ _
        refine NoPanic.normal ?_
        go_wp2_with fail
        go_ret
        exact ⟨false, rfl, ⟨fun h => (by cases h), fun h => by have h1 := h k (by have := HQ.out; omega); have := HC.out; have := HY.out; rw [← HQ.out] at h1; omega⟩, K.drew⟩
      | false =>
        have HC := Lib.hid (decide_eq_false_iff_not.1 hc)
        have HL1 := Lib.hid (show ∀ w, Calls Tryz.prog 69 #[.int .i64 y, .int .i64 (Z k)] w fun e w' => e = .returned (.bool false) ∧ w = w' from fun w => by rw [← hc]; exact HL.out y (Z k) w)
        clear hc HL
        refine wp_region_noPanic ?_
        refine wp_region_held_drew (S := (fun w' => Keeps wo w')) (by kernel_rfl) (Touch.refl _ wo).drew (fun hHeld => ?_)
        refine' wpAnyH_take (i := 0) ?hi0_2 ?hs0_2 ?hf0_2 ?hr0_2 ?hQ0_2 ?hy0_2 (by assumption) ?rest0_2
        case hi0_2 => simp only [List.getElem?_toArray, List.getElem?_cons_zero] <;> rfl
        case hs0_2 => kernel_rfl
        case hf0_2 => kernel_rfl
        case hr0_2 => kernel_rfl
        case hQ0_2 => exact fun _ _ _ h => h
        case hy0_2 => exact Or.inl ⟨by rfl, fun w hSw => by have q1 := cell_keep d1 hSw; have q2 := cell_keep d2 hSw; go_simp <;> (try with_reducible rfl)⟩
        simp only [Act.put, List.setIfInBounds_toArray, List.set_cons_zero, List.set_cons_succ]
        refine' wpAnyH_take (i := 1) ?hi1_2 ?hs1_2 ?hf1_2 ?hr1_2 ?hQ1_2 ?hy1_2 (by assumption) ?rest1_2
        case hi1_2 => simp only [List.getElem?_toArray, List.getElem?_cons_succ, List.getElem?_cons_zero] <;> rfl
        case hs1_2 => kernel_rfl
        case hf1_2 => kernel_rfl
        case hr1_2 => kernel_rfl
        case hQ1_2 => exact fun _ _ _ h => h
        case hy1_2 => exact Or.inl ⟨by rfl, fun w hSw => by have q1 := cell_keep d1 hSw; have q2 := cell_keep d2 hSw; go_simp <;> (try with_reducible rfl)⟩
        simp only [Act.put, List.setIfInBounds_toArray, List.set_cons_zero, List.set_cons_succ]
        refine' wpAnyH_take (i := 2) ?hi2_2 ?hs2_2 ?hf2_2 ?hr2_2 ?hQ2_2 ?hy2_2 (by assumption) ?rest2_2
        case hi2_2 => simp only [List.getElem?_toArray, List.getElem?_cons_succ, List.getElem?_cons_zero] <;> rfl
        case hs2_2 => kernel_rfl
        case hf2_2 => kernel_rfl
        case hr2_2 => kernel_rfl
        case hQ2_2 => exact fun _ _ _ h => h
        case hy2_2 => exact Or.inl ⟨by rfl, fun w hSw => by have q1 := cell_keep d1 hSw; have q2 := cell_keep d2 hSw; go_simp <;> (try with_reducible rfl)⟩
        simp only [Act.put, List.setIfInBounds_toArray, List.set_cons_zero, List.set_cons_succ]
        refine' wpAnyH_take (i := 3) ?hi3_2 ?hs3_2 ?hf3_2 ?hr3_2 ?hQ3_2 ?hy3_2 (by assumption) ?rest3_2
        case hi3_2 => simp only [List.getElem?_toArray, List.getElem?_cons_succ, List.getElem?_cons_zero] <;> rfl
        case hs3_2 => kernel_rfl
        case hf3_2 => kernel_rfl
        case hr3_2 => kernel_rfl
        case hQ3_2 => exact fun _ _ _ h => h
        case hy3_2 => exact Or.inl ⟨by rfl, fun w hSw => by have q1 := cell_keep d1 hSw; have q2 := cell_keep d2 hSw; go_simp <;> (try with_reducible rfl)⟩
        simp only [Act.put, List.setIfInBounds_toArray, List.set_cons_zero, List.set_cons_succ]
        refine' wpAnyH_take (i := 4) ?hi4_2 ?hs4_2 ?hf4_2 ?hr4_2 ?hQ4_2 ?hy4_2 (by assumption) ?rest4_2
        case hi4_2 => simp only [List.getElem?_toArray, List.getElem?_cons_succ, List.getElem?_cons_zero] <;> rfl
        case hs4_2 => kernel_rfl
        case hf4_2 => kernel_rfl
        case hr4_2 => kernel_rfl
        case hQ4_2 => exact fun _ _ _ h => h
        case hy4_2 => exact Or.inl ⟨by rfl, fun w hSw => by have q1 := cell_keep d1 hSw; have q2 := cell_keep d2 hSw; go_simp <;> (try with_reducible rfl)⟩
        simp only [Act.put, List.setIfInBounds_toArray, List.set_cons_zero, List.set_cons_succ]
        refine' wpAnyH_take (i := 5) ?hi5_2 ?hs5_2 ?hf5_2 ?hr5_2 ?hQ5_2 ?hy5_2 (by assumption) ?rest5_2
        case hi5_2 => simp only [List.getElem?_toArray, List.getElem?_cons_succ, List.getElem?_cons_zero] <;> rfl
        case hs5_2 => kernel_rfl
        case hf5_2 => kernel_rfl
        case hr5_2 => kernel_rfl
        case hQ5_2 => exact fun _ _ _ h => h
        case hy5_2 => exact Or.inl ⟨by rfl, fun w hSw => by have q1 := cell_keep d1 hSw; have q2 := cell_keep d2 hSw; go_simp <;> (try with_reducible rfl)⟩
        simp only [Act.put, List.setIfInBounds_toArray, List.set_cons_zero, List.set_cons_succ]
        refine' wpAnyH_take (i := 6) ?hi6_2 ?hs6_2 ?hf6_2 ?hr6_2 ?hQ6_2 ?hy6_2 (by assumption) ?rest6_2
        case hi6_2 => simp only [List.getElem?_toArray, List.getElem?_cons_succ, List.getElem?_cons_zero] <;> rfl
        case hs6_2 => kernel_rfl
        case hf6_2 => kernel_rfl
        case hr6_2 => kernel_rfl
        case hQ6_2 => exact fun _ _ _ h => h
        case hy6_2 => exact Or.inl ⟨by rfl, fun w hSw => by have q1 := cell_keep d1 hSw; have q2 := cell_keep d2 hSw; go_simp <;> (try with_reducible rfl)⟩
        simp only [Act.put, List.setIfInBounds_toArray, List.set_cons_zero, List.set_cons_succ]
        refine' wpAnyH_take (i := 7) ?hi7_2 ?hs7_2 ?hf7_2 ?hr7_2 ?hQ7_2 ?hy7_2 (by assumption) ?rest7_2
        case hi7_2 => simp only [List.getElem?_toArray, List.getElem?_cons_succ, List.getElem?_cons_zero] <;> rfl
        case hs7_2 => kernel_rfl
        case hf7_2 => kernel_rfl
        case hr7_2 => kernel_rfl
        case hQ7_2 => exact fun _ _ _ h => h
        case hy7_2 => exact Or.inl ⟨by rfl, fun w hSw => by have q1 := cell_keep d1 hSw; have q2 := cell_keep d2 hSw; go_simp <;> (try with_reducible rfl)⟩
        simp only [Act.put, List.setIfInBounds_toArray, List.set_cons_zero, List.set_cons_succ]
        refine' wpAnyH_take (i := 8) ?hi8_2 ?hs8_2 ?hf8_2 ?hr8_2 ?hQ8_2 ?hy8_2 (by assumption) ?rest8_2
        case hi8_2 => simp only [List.getElem?_toArray, List.getElem?_cons_succ, List.getElem?_cons_zero] <;> rfl
        case hs8_2 => kernel_rfl
        case hf8_2 => kernel_rfl
        case hr8_2 => kernel_rfl
        case hQ8_2 => exact fun _ _ _ h => h
        case hy8_2 => exact Or.inl ⟨by rfl, fun w hSw => by have q1 := cell_keep d1 hSw; have q2 := cell_keep d2 hSw; go_simp <;> (try with_reducible rfl)⟩
        simp only [Act.put, List.setIfInBounds_toArray, List.set_cons_zero, List.set_cons_succ]
        refine' take_call (i := 9) ?hi9_2 ?hs9_2 ?hf9_2 ?hr9_2 ?hQ9_2 ?hy9_2 (by assumption) ?rest9_2
        case hi9_2 => simp only [List.getElem?_toArray, List.getElem?_cons_succ, List.getElem?_cons_zero] <;> rfl
        case hs9_2 => kernel_rfl
        case hf9_2 => kernel_rfl
        case hr9_2 => kernel_rfl
        case hQ9_2 => exact fun _ _ _ h => h
        case hy9_2 => exact ⟨by rfl, fun w hSw => ⟨69, #[.int .i64 y, .int .i64 (Z k)], by go_simp <;> (try with_reducible rfl), HL1.out _⟩⟩
        simp only [Act.put, List.setIfInBounds_toArray, List.set_cons_zero, List.set_cons_succ]
        refine wpAnyH_done (by kernel_rfl) ?_ _
        refine NoPanic.normal ?_
        go_wp2_with fail
        go_roundw
        case rel => exact ⟨k, by omega, by omega, by omega, by have := HQ.out; go_num, fun j h1 h2 => by
          have hq' := HQ.out
          rcases (by omega : k < j ∨ j = k) with h | rfl
          · exact HA.out j (by omega) h2
          · have := HC.out; have := HY.out; rw [← HQ.out]; omega, K.drew⟩
        case measure => have := HQ.out; simp [intOf]; omega
    · go_wp2_with fail
      go_ret
      exact ⟨true, rfl, ⟨fun _ j hj => HA.out j (by omega) hj, fun _ => rfl⟩, K⟩

end Go.Proofs.YtkjgfblkbjlohaaGreat
