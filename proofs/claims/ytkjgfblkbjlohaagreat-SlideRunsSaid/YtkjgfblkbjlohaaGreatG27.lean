/- Layer 16's sorted. -/
import Derived.Test.YtkjgfblkbjlohaaGreatG26
set_option linter.all false

namespace Go.Proofs.YtkjgfblkbjlohaaGreat
open Go.RowKit

/-- Rising. -/
def Rising (l : List Int) : Prop := ∀ i, i + 1 < l.length → l.getD i 0 ≤ l.getD (i + 1) 0
/-- The first i + 1 rise, but the k-th, which is no greater than those behind it. -/
structure InsAt (l : List Int) (i k : Nat) : Prop where
  le : k ≤ i
  one : ∀ a b, a < b → b ≤ i → a ≠ k → b ≠ k → l.getD a 0 ≤ l.getD b 0
  two : ∀ b, k < b → b ≤ i → l.getD k 0 ≤ l.getD b 0
def Upto (l : List Int) (i : Nat) : Prop := ∀ a b, a < b → b < i → l.getD a 0 ≤ l.getD b 0
theorem InsAt.start {l : List Int} {i : Nat} (h : Upto l i) : InsAt l i i :=
  ⟨Nat.le_refl _, fun a b h1 h2 _ h4 => h a b h1 (by omega), fun b h1 h2 => by omega⟩
theorem InsAt.done {l : List Int} {i k : Nat} (h : InsAt l i k) (hk : k = 0 ∨ ∃ k', k = k' + 1 ∧ l.getD k' 0 ≤ l.getD k 0) : Upto l (i + 1) := fun a b h1 h2 => by
  by_cases ha : a = k
  · subst ha; exact h.two b h1 (by omega)
  · by_cases hb : b = k
    · subst hb
      rcases hk with hk | ⟨k', hk, hle⟩
      · omega
      · by_cases hak : a = k'
        · subst hak; exact hle
        · have := h.one a k' (by omega) (by have := h.le; omega) ha (by omega)
          omega
    · exact h.one a b h1 (by omega) ha hb
theorem getD_set (l : List Int) (j : Nat) (x : Int) (a : Nat) (hj : j < l.length) : (l.set j x).getD a 0 = if a = j then x else l.getD a 0 := by
  rw [List.getD_eq_getElem?_getD, List.getD_eq_getElem?_getD, List.getElem?_set]
  by_cases h : a = j
  · subst h; simp [hj]
  · rw [if_neg h, if_neg (fun e => h e.symm)]
def swapL (l : List Int) (k : Nat) : List Int := (l.set (k + 1) (l.getD k 0)).set k (l.getD (k + 1) 0)
theorem swapL_len (l : List Int) (k : Nat) : (swapL l k).length = l.length := by simp [swapL]
theorem swapL_get (l : List Int) (k a : Nat) (hk : k + 1 < l.length) : (swapL l k).getD a 0 = if a = k then l.getD (k + 1) 0 else if a = k + 1 then l.getD k 0 else l.getD a 0 := by
  unfold swapL
  rw [getD_set _ _ _ _ (by simp; omega), getD_set _ _ _ _ hk]
theorem swapL_perm (l : List Int) (k : Nat) (hk : k + 1 < l.length) : (swapL l k).Perm l := by
  have hk0 : k < l.length := by omega
  have h : ((l.set (k + 1) l[k]).set k l[k + 1]).Perm l := List.set_set_perm hk hk0
  unfold swapL
  rw [List.getD_eq_getElem?_getD, List.getD_eq_getElem?_getD, List.getElem?_eq_getElem hk, List.getElem?_eq_getElem (by omega : k < l.length)]
  exact h
theorem InsAt.step {l : List Int} {i k : Nat} (h : InsAt l i (k + 1)) (hi : i < l.length) (hlt : l.getD (k + 1) 0 < l.getD k 0) : InsAt (swapL l k) i k := by
  have hle := h.le
  have hg := fun a => swapL_get l k a (by omega)
  refine ⟨by omega, fun a b h1 h2 ha hb => ?_, fun b h1 h2 => ?_⟩
  · rw [hg a, hg b, if_neg ha, if_neg hb]
    by_cases ha1 : a = k + 1
    · rw [if_pos ha1, if_neg (by omega)]; exact h.one k b (by omega) h2 (by omega) (by omega)
    · rw [if_neg ha1]
      by_cases hb1 : b = k + 1
      · rw [if_pos hb1]; exact h.one a k (by omega) (by omega) (by omega) (by omega)
      · rw [if_neg hb1]; exact h.one a b h1 h2 ha1 hb1
  · rw [hg k, hg b, if_pos rfl, if_neg (by omega)]
    by_cases hb1 : b = k + 1
    · rw [if_pos hb1]; omega
    · rw [if_neg hb1]; exact h.two b (by omega) h2
theorem OwnInts.stored {w : World} {base g n cap : Nat} {l : List Int} (h : OwnInts w base (.slice (some ⟨g, 0, none⟩) n cap) l) (hn : l.length = n) (j : Nat) (x : Int) : OwnInts (w.setCell ⟨g, j, none⟩ (.int .i64 x)) base (.slice (some ⟨g, 0, none⟩) n cap) (l.set j x) := by
  unfold OwnInts at *
  rw [List.length_set, show ints (l.set j x) = (ints l).set j (.int .i64 x) by simp [ints, List.map_set]]
  subst hn
  exact (World.ownsRow.stored h j (.int .i64 x)).1
theorem OwnInts.cell {w : World} {base g n cap : Nat} {l : List Int} (h : OwnInts w base (.slice (some ⟨g, 0, none⟩) n cap) l) (hn : l.length = n) {j : Nat} (hj : j < n) : w.cell? ⟨g, j, none⟩ = some (.int .i64 (l.getD j 0)) ∧ w.frozen? ⟨g, j, none⟩ = false := by
  unfold OwnInts at h
  subst hn
  refine ⟨?_, World.ownsRow.frozenAt h j⟩
  rw [World.ownsRow.cellAt h j (by omega)]
  simp [ints, hj, List.getD_eq_getElem?_getD]
theorem OwnInts.form0 {w : World} {base : Nat} {v : Value} {l : List Int} (h : OwnInts w base v l) (hn : 0 < l.length) : ∃ g cap, v = .slice (some ⟨g, 0, none⟩) l.length cap ∧ base ≤ g ∧ g < w.heap.size := by
  rcases h.2 with ⟨_, h0⟩ | ⟨g, cap, cur, rfl, hb, hg, _⟩
  · omega
  · exact ⟨g, cap, rfl, hb, lt_of_block hg⟩
def SortOut (l : List Int) (w : World) (e : Ending) (w' : World) : Prop := ∃ v l', e = .returned v ∧ OwnInts w' w.heap.size v l' ∧ Rising l' ∧ l'.Perm l ∧ Keeps w w'
set_option maxRecDepth 100000 in
set_option maxHeartbeats 4000000 in
theorem sort_any (A : Option Addr) (n cap : Nat) (Z : Nat → Int) (w : World) (hr : Rd w A n (intF .i64 Z)) (hn : n ≤ 1000) (hv : A = none → n = 0 ∧ cap = 0) :
    Calls Tryz.prog 22 #[.slice A n cap] w (SortOut ((List.range n).map Z) w) := by
  go_enter Tryz.func22, Tryz.ntmps22
  go_upto_region 1 with fail
  go_cut [3] from 6 to 9 (fun v wx => OwnInts wx w.heap.size v ((List.range n).map Z) ∧ Keeps w wx)
  case first =>
    cases A with
    | none =>
      obtain ⟨rfl, rfl⟩ := hv rfl
      clear hv
      go_wp2_with fail
      go_meet
      exact ⟨own_empty w w.heap.size _ rfl (Nat.le_refl _), (Touch.refl _ w).alloc _⟩
    | some ad =>
      have HR := Lib.hid (show Rd (w.alloc (.cells #[] 3)) (some ad) (n * 1) (intF .i64 Z) by rw [Nat.mul_one]; exact hr.keep ((Touch.refl _ w).alloc _))
      clear hr hv
      go_wp2_with (at_builtin; refine app_rd ?_ (.tmp 6) (.tmp 7) (T := 34) (E := 3) ?_ Tryz.underlying34 info_int rfl (by decide) w.heap.size _ 0 [] ?_ (own_new w _ 1 _ rfl) ad n cap ?_ (intF .i64 Z) HR.out (fun j _ => rfl) (by omega) (by decide) (by simp) ?_; rfl; rfl; rfl; rfl; intro v' w' hown hgr hbl; have HOw := Lib.hid hown; have KK := Keeps.grown ((Touch.refl _ w).alloc (.cells #[] 3)) hgr (fun k e => by simp [Value.ownBlock] at e; omega); clear hown hgr hbl)
      go_meet
      have hown := HOw.out
      simp only [Nat.zero_add, Nat.mul_one, List.nil_append] at hown
      refine ⟨?_, KK⟩
      unfold OwnInts
      have e : ints ((List.range n).map Z) = (List.range n).map (intF .i64 Z) := by simp [ints, intF, Function.comp_def]
      rw [e, List.length_map, List.length_range]
      exact hown
  case rest =>
  obtain ⟨w1, rfl⟩ : ∃ w1 : World, w1 = wc := ⟨_, rfl⟩
  obtain ⟨hown, K1⟩ := hcut
  have hL : ((List.range n).map Z).length = n := by simp
  have HPm := Lib.hid (List.Perm.refl ((List.range n).map Z))
  generalize hl0 : (List.range n).map Z = l0 at *
  clear hl0 hr
  obtain ⟨ad, cp, hvv⟩ := hown.form
  rw [hL] at hvv
  subst hvv
  have HO := Lib.hid hown
  clear hown
  go_wp2_with fail
  go_loopw [11] (fun s wr => ∃ (i : Nat) (l : List Int), i ≤ n ∧ s = .int .i64 i ∧ l.length = n ∧ OwnInts wr w.heap.size (.slice ad n cp) l ∧ l.Perm l0 ∧ Upto l i ∧ Keeps w wr) (fun s _ => n - (intOf s).toNat)
  case atStart => exact ⟨0, l0, by omega, rfl, hL, HO.out, List.Perm.refl _, fun a b h1 h2 => by omega, K1⟩
  case round =>
    obtain ⟨wo, rfl⟩ : ∃ wo : World, wo = wr := ⟨_, rfl⟩
    obtain ⟨i, l, hi, rfl, hln, hown, hpm, hup, K⟩ := hrel
    have HO2 := Lib.hid hown
    have HP2 := Lib.hid hpm
    have HU2 := Lib.hid hup
    clear hpm hup HO
    by_cases hlt : i < n
    · obtain ⟨g, cp', hg, hg1, hg2⟩ := hown.form0 (by omega)
      simp only [Value.slice.injEq, hln, true_and] at hg
      obtain ⟨rfl, rfl⟩ := hg
      clear hown
      go_wp2_with fail
      go_loopw [5] (fun s wr => ∃ (k : Nat) (l : List Int), s = .int .i64 k ∧ l.length = n ∧ OwnInts wr w.heap.size (.slice (some ⟨g, 0, none⟩) n cp) l ∧ l.Perm l0 ∧ InsAt l i k ∧ Keeps w wr) (fun s _ => (intOf s).toNat)
      case atStart => exact ⟨i, l, rfl, hln, HO2.out, HP2.out, InsAt.start HU2.out, K⟩
      case round =>
        clear K hln HO2 HP2 HU2
        obtain ⟨w2, rfl⟩ : ∃ w2 : World, w2 = wr := ⟨_, rfl⟩
        obtain ⟨q, l, rfl, hln, hown, hpm, hins, K⟩ := hrel
        have HO := Lib.hid hown
        have HP := Lib.hid hpm
        have HI := Lib.hid hins
        have hki := hins.le
        clear hpm hins
        by_cases hz : q = 0
        · subst hz
          clear hown
          go_wp2_with fail
          refine wp_region_noPanic ?_
          refine wp_region_held_drew (S := (fun w' => Keeps w2 w')) (by kernel_rfl) (Touch.refl _ w2).drew (fun hHeld => ?_)
          refine' wpAnyH_take (i := 0) ?hi0_3 ?hs0_3 ?hf0_3 ?hr0_3 ?hQ0_3 ?hy0_3 (by assumption) ?rest0_3
          case hi0_3 => simp only [List.getElem?_toArray, List.getElem?_cons_zero] <;> rfl
          case hs0_3 => kernel_rfl
          case hf0_3 => kernel_rfl
          case hr0_3 => kernel_rfl
          case hQ0_3 => exact fun _ _ _ h => h
          case hy0_3 => exact Or.inl ⟨by rfl, fun w hSw => by go_simp <;> (try with_reducible rfl)⟩
          simp only [Act.put, List.setIfInBounds_toArray, List.set_cons_zero, List.set_cons_succ]
          refine' wpAnyH_take (i := 1) ?hi1_3 ?hs1_3 ?hf1_3 ?hr1_3 ?hQ1_3 ?hy1_3 (by assumption) ?rest1_3
          case hi1_3 => simp only [List.getElem?_toArray, List.getElem?_cons_succ, List.getElem?_cons_zero] <;> rfl
          case hs1_3 => kernel_rfl
          case hf1_3 => kernel_rfl
          case hr1_3 => kernel_rfl
          case hQ1_3 => exact fun _ _ _ h => h
          case hy1_3 => exact Or.inl ⟨by rfl, fun w hSw => by go_simp <;> (try with_reducible rfl)⟩
          simp only [Act.put, List.setIfInBounds_toArray, List.set_cons_zero, List.set_cons_succ]
          refine' wpAnyH_take (i := 2) ?hi2_3 ?hs2_3 ?hf2_3 ?hr2_3 ?hQ2_3 ?hy2_3 (by assumption) ?rest2_3
          case hi2_3 => simp only [List.getElem?_toArray, List.getElem?_cons_succ, List.getElem?_cons_zero] <;> rfl
          case hs2_3 => kernel_rfl
          case hf2_3 => kernel_rfl
          case hr2_3 => kernel_rfl
          case hQ2_3 => exact fun _ _ _ h => h
          case hy2_3 => exact Or.inl ⟨by rfl, fun w hSw => by go_simp <;> (try with_reducible rfl)⟩
          simp only [Act.put, List.setIfInBounds_toArray, List.set_cons_zero, List.set_cons_succ]
          refine' wpAnyH_take (i := 3) ?hi3_3 ?hs3_3 ?hf3_3 ?hr3_3 ?hQ3_3 ?hy3_3 (by assumption) ?rest3_3
          case hi3_3 => simp only [List.getElem?_toArray, List.getElem?_cons_succ, List.getElem?_cons_zero] <;> rfl
          case hs3_3 => kernel_rfl
          case hf3_3 => kernel_rfl
          case hr3_3 => kernel_rfl
          case hQ3_3 => exact fun _ _ _ h => h
          case hy3_3 => exact Or.inr ⟨by kernel_rfl, rfl⟩
          simp only [Act.put, List.setIfInBounds_toArray, List.set_cons_zero, List.set_cons_succ]
          refine' wpAnyH_take (i := 4) ?hi4_3 ?hs4_3 ?hf4_3 ?hr4_3 ?hQ4_3 ?hy4_3 (by assumption) ?rest4_3
          case hi4_3 => simp only [List.getElem?_toArray, List.getElem?_cons_succ, List.getElem?_cons_zero] <;> rfl
          case hs4_3 => kernel_rfl
          case hf4_3 => kernel_rfl
          case hr4_3 => kernel_rfl
          case hQ4_3 => exact fun _ _ _ h => h
          case hy4_3 => exact Or.inr ⟨by kernel_rfl, rfl⟩
          simp only [Act.put, List.setIfInBounds_toArray, List.set_cons_zero, List.set_cons_succ]
          refine' wpAnyH_take (i := 5) ?hi5_3 ?hs5_3 ?hf5_3 ?hr5_3 ?hQ5_3 ?hy5_3 (by assumption) ?rest5_3
          case hi5_3 => simp only [List.getElem?_toArray, List.getElem?_cons_succ, List.getElem?_cons_zero] <;> rfl
          case hs5_3 => kernel_rfl
          case hf5_3 => kernel_rfl
          case hr5_3 => kernel_rfl
          case hQ5_3 => exact fun _ _ _ h => h
          case hy5_3 => exact Or.inr ⟨by kernel_rfl, rfl⟩
          simp only [Act.put, List.setIfInBounds_toArray, List.set_cons_zero, List.set_cons_succ]
          refine' wpAnyH_take (i := 6) ?hi6_3 ?hs6_3 ?hf6_3 ?hr6_3 ?hQ6_3 ?hy6_3 (by assumption) ?rest6_3
          case hi6_3 => simp only [List.getElem?_toArray, List.getElem?_cons_succ, List.getElem?_cons_zero] <;> rfl
          case hs6_3 => kernel_rfl
          case hf6_3 => kernel_rfl
          case hr6_3 => kernel_rfl
          case hQ6_3 => exact fun _ _ _ h => h
          case hy6_3 => exact Or.inr ⟨by kernel_rfl, rfl⟩
          simp only [Act.put, List.setIfInBounds_toArray, List.set_cons_zero, List.set_cons_succ]
          refine' wpAnyH_take (i := 7) ?hi7_3 ?hs7_3 ?hf7_3 ?hr7_3 ?hQ7_3 ?hy7_3 (by assumption) ?rest7_3
          case hi7_3 => simp only [List.getElem?_toArray, List.getElem?_cons_succ, List.getElem?_cons_zero] <;> rfl
          case hs7_3 => kernel_rfl
          case hf7_3 => kernel_rfl
          case hr7_3 => kernel_rfl
          case hQ7_3 => exact fun _ _ _ h => h
          case hy7_3 => exact Or.inr ⟨by kernel_rfl, rfl⟩
          simp only [Act.put, List.setIfInBounds_toArray, List.set_cons_zero, List.set_cons_succ]
          refine' wpAnyH_take (i := 8) ?hi8_3 ?hs8_3 ?hf8_3 ?hr8_3 ?hQ8_3 ?hy8_3 (by assumption) ?rest8_3
          case hi8_3 => simp only [List.getElem?_toArray, List.getElem?_cons_succ, List.getElem?_cons_zero] <;> rfl
          case hs8_3 => kernel_rfl
          case hf8_3 => kernel_rfl
          case hr8_3 => kernel_rfl
          case hQ8_3 => exact fun _ _ _ h => h
          case hy8_3 => exact Or.inr ⟨by kernel_rfl, rfl⟩
          simp only [Act.put, List.setIfInBounds_toArray, List.set_cons_zero, List.set_cons_succ]
          refine' wpAnyH_take (i := 9) ?hi9_3 ?hs9_3 ?hf9_3 ?hr9_3 ?hQ9_3 ?hy9_3 (by assumption) ?rest9_3
          case hi9_3 => simp only [List.getElem?_toArray, List.getElem?_cons_succ, List.getElem?_cons_zero] <;> rfl
          case hs9_3 => kernel_rfl
          case hf9_3 => kernel_rfl
          case hr9_3 => kernel_rfl
          case hQ9_3 => exact fun _ _ _ h => h
          case hy9_3 => exact Or.inr ⟨by kernel_rfl, rfl⟩
          simp only [Act.put, List.setIfInBounds_toArray, List.set_cons_zero, List.set_cons_succ]
          refine' wpAnyH_take (i := 10) ?hi10_3 ?hs10_3 ?hf10_3 ?hr10_3 ?hQ10_3 ?hy10_3 (by assumption) ?rest10_3
          case hi10_3 => simp only [List.getElem?_toArray, List.getElem?_cons_succ, List.getElem?_cons_zero] <;> rfl
          case hs10_3 => kernel_rfl
          case hf10_3 => kernel_rfl
          case hr10_3 => kernel_rfl
          case hQ10_3 => exact fun _ _ _ h => h
          case hy10_3 => exact Or.inr ⟨by kernel_rfl, rfl⟩
          simp only [Act.put, List.setIfInBounds_toArray, List.set_cons_zero, List.set_cons_succ]
          refine' wpAnyH_take (i := 11) ?hi11_3 ?hs11_3 ?hf11_3 ?hr11_3 ?hQ11_3 ?hy11_3 (by assumption) ?rest11_3
          case hi11_3 => simp only [List.getElem?_toArray, List.getElem?_cons_succ, List.getElem?_cons_zero] <;> rfl
          case hs11_3 => kernel_rfl
          case hf11_3 => kernel_rfl
          case hr11_3 => kernel_rfl
          case hQ11_3 => exact fun _ _ _ h => h
          case hy11_3 => exact Or.inr ⟨by kernel_rfl, rfl⟩
          simp only [Act.put, List.setIfInBounds_toArray, List.set_cons_zero, List.set_cons_succ]
          refine' wpAnyH_take (i := 12) ?hi12_3 ?hs12_3 ?hf12_3 ?hr12_3 ?hQ12_3 ?hy12_3 (by assumption) ?rest12_3
          case hi12_3 => simp only [List.getElem?_toArray, List.getElem?_cons_succ, List.getElem?_cons_zero] <;> rfl
          case hs12_3 => kernel_rfl
          case hf12_3 => kernel_rfl
          case hr12_3 => kernel_rfl
          case hQ12_3 => exact fun _ _ _ h => h
          case hy12_3 => exact Or.inr ⟨by kernel_rfl, rfl⟩
          simp only [Act.put, List.setIfInBounds_toArray, List.set_cons_zero, List.set_cons_succ]
          refine' wpAnyH_take (i := 13) ?hi13_3 ?hs13_3 ?hf13_3 ?hr13_3 ?hQ13_3 ?hy13_3 (by assumption) ?rest13_3
          case hi13_3 => simp only [List.getElem?_toArray, List.getElem?_cons_succ, List.getElem?_cons_zero] <;> rfl
          case hs13_3 => kernel_rfl
          case hf13_3 => kernel_rfl
          case hr13_3 => kernel_rfl
          case hQ13_3 => exact fun _ _ _ h => h
          case hy13_3 => exact Or.inl ⟨by rfl, fun w hSw => by go_simp <;> (try with_reducible rfl)⟩
          simp only [Act.put, List.setIfInBounds_toArray, List.set_cons_zero, List.set_cons_succ]
          refine wpAnyH_done (by kernel_rfl) ?_ _
          refine NoPanic.normal ?_
          go_wp2_with fail
          go_roundw
          case rel => exact ⟨i + 1, l, by omega, by go_num, hln, HO.out, HP.out, HI.out.done (.inl rfl), K.drew⟩
          case measure => simp [intOf]; omega
        · obtain ⟨k, hq⟩ : ∃ k : Nat, q = k + 1 := ⟨q - 1, by omega⟩
          obtain ⟨d1, f1⟩ := hown.cell hln (j := q) (by omega)
          obtain ⟨d2, f2⟩ := hown.cell hln (j := k) (by omega)
          have g1 : IntKind.i64.wrap ((q : Int) - 1) = k := by rw [IntWalk.i64_in _ ⟨by omega, by omega⟩]; omega
          have hqn : q < n := by omega
          have hkn : k < n := by omega
          have hq0 : (0 : Int) < q := by omega
          have hq3 : 0 < q := by omega
          have hqI : (q : Int) < n := by omega
          have hkI : (k : Int) < n := by omega
          have hk0 : (0 : Int) ≤ k := by omega
          have hq1 : (0 : Int) ≤ q := by omega
          have HI2 := Lib.hid (show l.getD q 0 < l.getD k 0 → InsAt (swapL l k) i k from fun h => by subst hq; exact HI.out.step (by omega) h)
          have HI3 := Lib.hid (show l.getD k 0 ≤ l.getD q 0 → Upto l (i + 1) from fun h => by subst hq; exact HI.out.done (.inr ⟨k, rfl, h⟩))
          have HSw := Lib.hid (swapL_perm l k (by omega))
          have HSl := swapL_len l k
          have e5 : (w2.setCell ⟨g, q, none⟩ (.int .i64 (l.getD k 0))).cell? ⟨g, k, none⟩ = some (.int .i64 (l.getD k 0)) := by
            have := ((hown.stored hln q (l.getD k 0)).cell (by simpa using hln) (j := k) (by omega)).1
            rw [getD_set _ _ _ _ (by omega), if_neg (by omega)] at this
            exact this
          have e6 : (w2.setCell ⟨g, k, none⟩ (.int .i64 (l.getD q 0))).cell? ⟨g, q, none⟩ = some (.int .i64 (l.getD q 0)) := by
            have := ((hown.stored hln k (l.getD q 0)).cell (by simpa using hln) (j := q) (by omega)).1
            rw [getD_set _ _ _ _ (by omega), if_neg (by omega)] at this
            exact this
          have HOs := Lib.hid (show OwnInts ((w2.setCell ⟨g, q, none⟩ (.int .i64 (l.getD k 0))).setCell ⟨g, k, none⟩ (.int .i64 (l.getD q 0))) w.heap.size (.slice (some ⟨g, 0, none⟩) n cp) (swapL l k) from by subst hq; exact (hown.stored hln (k + 1) _).stored (by simpa using hln) k _)
          clear hown
          generalize hx : l.getD q 0 = x at *
          generalize hy : l.getD k 0 = y at *
          have HQ := Lib.hid hq
          clear hx hy hq
          cases hc : decide (x < y) with
          | false =>
            have HC := Lib.hid (HI3.out (by have := decide_eq_false_iff_not.1 hc; omega))
            clear HI HI2 HI3 HSw HSl HOs
            go_wp2_with fail
            refine wp_region_noPanic ?_
            refine wp_region_held_drew (S := (fun w' => Keeps w2 w')) (by kernel_rfl) (Touch.refl _ w2).drew (fun hHeld => ?_)
            refine' wpAnyH_take (i := 0) ?hi0_1 ?hs0_1 ?hf0_1 ?hr0_1 ?hQ0_1 ?hy0_1 (by assumption) ?rest0_1
            case hi0_1 => simp only [List.getElem?_toArray, List.getElem?_cons_zero] <;> rfl
            case hs0_1 => kernel_rfl
            case hf0_1 => kernel_rfl
            case hr0_1 => kernel_rfl
            case hQ0_1 => exact fun _ _ _ h => h
            case hy0_1 => exact Or.inl ⟨by rfl, fun w hSw => by have q1 := cell_keep d1 hSw; have q2 := cell_keep d2 hSw; go_simp <;> (try with_reducible rfl)⟩
            simp only [Act.put, List.setIfInBounds_toArray, List.set_cons_zero, List.set_cons_succ]
            refine' wpAnyH_take (i := 1) ?hi1_1 ?hs1_1 ?hf1_1 ?hr1_1 ?hQ1_1 ?hy1_1 (by assumption) ?rest1_1
            case hi1_1 => simp only [List.getElem?_toArray, List.getElem?_cons_succ, List.getElem?_cons_zero] <;> rfl
            case hs1_1 => kernel_rfl
            case hf1_1 => kernel_rfl
            case hr1_1 => kernel_rfl
            case hQ1_1 => exact fun _ _ _ h => h
            case hy1_1 => exact Or.inl ⟨by rfl, fun w hSw => by have q1 := cell_keep d1 hSw; have q2 := cell_keep d2 hSw; go_simp <;> (try with_reducible rfl)⟩
            simp only [Act.put, List.setIfInBounds_toArray, List.set_cons_zero, List.set_cons_succ]
            refine' wpAnyH_take (i := 2) ?hi2_1 ?hs2_1 ?hf2_1 ?hr2_1 ?hQ2_1 ?hy2_1 (by assumption) ?rest2_1
            case hi2_1 => simp only [List.getElem?_toArray, List.getElem?_cons_succ, List.getElem?_cons_zero] <;> rfl
            case hs2_1 => kernel_rfl
            case hf2_1 => kernel_rfl
            case hr2_1 => kernel_rfl
            case hQ2_1 => exact fun _ _ _ h => h
            case hy2_1 => exact Or.inl ⟨by rfl, fun w hSw => by have q1 := cell_keep d1 hSw; have q2 := cell_keep d2 hSw; go_simp <;> (try with_reducible rfl)⟩
            simp only [Act.put, List.setIfInBounds_toArray, List.set_cons_zero, List.set_cons_succ]
            refine' wpAnyH_take (i := 3) ?hi3_1 ?hs3_1 ?hf3_1 ?hr3_1 ?hQ3_1 ?hy3_1 (by assumption) ?rest3_1
            case hi3_1 => simp only [List.getElem?_toArray, List.getElem?_cons_succ, List.getElem?_cons_zero] <;> rfl
            case hs3_1 => kernel_rfl
            case hf3_1 => kernel_rfl
            case hr3_1 => kernel_rfl
            case hQ3_1 => exact fun _ _ _ h => h
            case hy3_1 => exact Or.inl ⟨by rfl, fun w hSw => by have q1 := cell_keep d1 hSw; have q2 := cell_keep d2 hSw; go_simp <;> (try with_reducible rfl)⟩
            simp only [Act.put, List.setIfInBounds_toArray, List.set_cons_zero, List.set_cons_succ]
            refine' wpAnyH_take (i := 4) ?hi4_1 ?hs4_1 ?hf4_1 ?hr4_1 ?hQ4_1 ?hy4_1 (by assumption) ?rest4_1
            case hi4_1 => simp only [List.getElem?_toArray, List.getElem?_cons_succ, List.getElem?_cons_zero] <;> rfl
            case hs4_1 => kernel_rfl
            case hf4_1 => kernel_rfl
            case hr4_1 => kernel_rfl
            case hQ4_1 => exact fun _ _ _ h => h
            case hy4_1 => exact Or.inl ⟨by rfl, fun w hSw => by have q1 := cell_keep d1 hSw; have q2 := cell_keep d2 hSw; go_simp <;> (try with_reducible rfl)⟩
            simp only [Act.put, List.setIfInBounds_toArray, List.set_cons_zero, List.set_cons_succ]
            refine' wpAnyH_take (i := 5) ?hi5_1 ?hs5_1 ?hf5_1 ?hr5_1 ?hQ5_1 ?hy5_1 (by assumption) ?rest5_1
            case hi5_1 => simp only [List.getElem?_toArray, List.getElem?_cons_succ, List.getElem?_cons_zero] <;> rfl
            case hs5_1 => kernel_rfl
            case hf5_1 => kernel_rfl
            case hr5_1 => kernel_rfl
            case hQ5_1 => exact fun _ _ _ h => h
            case hy5_1 => exact Or.inl ⟨by rfl, fun w hSw => by have q1 := cell_keep d1 hSw; have q2 := cell_keep d2 hSw; go_simp <;> (try with_reducible rfl)⟩
            simp only [Act.put, List.setIfInBounds_toArray, List.set_cons_zero, List.set_cons_succ]
            refine' wpAnyH_take (i := 6) ?hi6_1 ?hs6_1 ?hf6_1 ?hr6_1 ?hQ6_1 ?hy6_1 (by assumption) ?rest6_1
            case hi6_1 => simp only [List.getElem?_toArray, List.getElem?_cons_succ, List.getElem?_cons_zero] <;> rfl
            case hs6_1 => kernel_rfl
            case hf6_1 => kernel_rfl
            case hr6_1 => kernel_rfl
            case hQ6_1 => exact fun _ _ _ h => h
            case hy6_1 => exact Or.inl ⟨by rfl, fun w hSw => by have q1 := cell_keep d1 hSw; have q2 := cell_keep d2 hSw; go_simp <;> (try with_reducible rfl)⟩
            simp only [Act.put, List.setIfInBounds_toArray, List.set_cons_zero, List.set_cons_succ]
            refine' wpAnyH_take (i := 7) ?hi7_1 ?hs7_1 ?hf7_1 ?hr7_1 ?hQ7_1 ?hy7_1 (by assumption) ?rest7_1
            case hi7_1 => simp only [List.getElem?_toArray, List.getElem?_cons_succ, List.getElem?_cons_zero] <;> rfl
            case hs7_1 => kernel_rfl
            case hf7_1 => kernel_rfl
            case hr7_1 => kernel_rfl
            case hQ7_1 => exact fun _ _ _ h => h
            case hy7_1 => exact Or.inl ⟨by rfl, fun w hSw => by have q1 := cell_keep d1 hSw; have q2 := cell_keep d2 hSw; go_simp <;> (try with_reducible rfl)⟩
            simp only [Act.put, List.setIfInBounds_toArray, List.set_cons_zero, List.set_cons_succ]
            refine' wpAnyH_take (i := 8) ?hi8_1 ?hs8_1 ?hf8_1 ?hr8_1 ?hQ8_1 ?hy8_1 (by assumption) ?rest8_1
            case hi8_1 => simp only [List.getElem?_toArray, List.getElem?_cons_succ, List.getElem?_cons_zero] <;> rfl
            case hs8_1 => kernel_rfl
            case hf8_1 => kernel_rfl
            case hr8_1 => kernel_rfl
            case hQ8_1 => exact fun _ _ _ h => h
            case hy8_1 => exact Or.inl ⟨by rfl, fun w hSw => by have q1 := cell_keep d1 hSw; have q2 := cell_keep d2 hSw; go_simp <;> (try with_reducible rfl)⟩
            simp only [Act.put, List.setIfInBounds_toArray, List.set_cons_zero, List.set_cons_succ]
            refine' wpAnyH_take (i := 9) ?hi9_1 ?hs9_1 ?hf9_1 ?hr9_1 ?hQ9_1 ?hy9_1 (by assumption) ?rest9_1
            case hi9_1 => simp only [List.getElem?_toArray, List.getElem?_cons_succ, List.getElem?_cons_zero] <;> rfl
            case hs9_1 => kernel_rfl
            case hf9_1 => kernel_rfl
            case hr9_1 => kernel_rfl
            case hQ9_1 => exact fun _ _ _ h => h
            case hy9_1 => exact Or.inl ⟨by rfl, fun w hSw => by have q1 := cell_keep d1 hSw; have q2 := cell_keep d2 hSw; go_simp <;> (try with_reducible rfl)⟩
            simp only [Act.put, List.setIfInBounds_toArray, List.set_cons_zero, List.set_cons_succ]
            refine' wpAnyH_take (i := 10) ?hi10_1 ?hs10_1 ?hf10_1 ?hr10_1 ?hQ10_1 ?hy10_1 (by assumption) ?rest10_1
            case hi10_1 => simp only [List.getElem?_toArray, List.getElem?_cons_succ, List.getElem?_cons_zero] <;> rfl
            case hs10_1 => kernel_rfl
            case hf10_1 => kernel_rfl
            case hr10_1 => kernel_rfl
            case hQ10_1 => exact fun _ _ _ h => h
            case hy10_1 => exact Or.inl ⟨by rfl, fun w hSw => by have q1 := cell_keep d1 hSw; have q2 := cell_keep d2 hSw; go_simp <;> (try with_reducible rfl)⟩
            simp only [Act.put, List.setIfInBounds_toArray, List.set_cons_zero, List.set_cons_succ]
            refine' wpAnyH_take (i := 11) ?hi11_1 ?hs11_1 ?hf11_1 ?hr11_1 ?hQ11_1 ?hy11_1 (by assumption) ?rest11_1
            case hi11_1 => simp only [List.getElem?_toArray, List.getElem?_cons_succ, List.getElem?_cons_zero] <;> rfl
            case hs11_1 => kernel_rfl
            case hf11_1 => kernel_rfl
            case hr11_1 => kernel_rfl
            case hQ11_1 => exact fun _ _ _ h => h
            case hy11_1 => exact Or.inl ⟨by rfl, fun w hSw => by have q1 := cell_keep d1 hSw; have q2 := cell_keep d2 hSw; go_simp <;> (try with_reducible rfl)⟩
            simp only [Act.put, List.setIfInBounds_toArray, List.set_cons_zero, List.set_cons_succ]
            refine' wpAnyH_take (i := 12) ?hi12_1 ?hs12_1 ?hf12_1 ?hr12_1 ?hQ12_1 ?hy12_1 (by assumption) ?rest12_1
            case hi12_1 => simp only [List.getElem?_toArray, List.getElem?_cons_succ, List.getElem?_cons_zero] <;> rfl
            case hs12_1 => kernel_rfl
            case hf12_1 => kernel_rfl
            case hr12_1 => kernel_rfl
            case hQ12_1 => exact fun _ _ _ h => h
            case hy12_1 => exact Or.inl ⟨by rfl, fun w hSw => by have q1 := cell_keep d1 hSw; have q2 := cell_keep d2 hSw; go_simp <;> (try with_reducible rfl)⟩
            simp only [Act.put, List.setIfInBounds_toArray, List.set_cons_zero, List.set_cons_succ]
            refine' wpAnyH_take (i := 13) ?hi13_1 ?hs13_1 ?hf13_1 ?hr13_1 ?hQ13_1 ?hy13_1 (by assumption) ?rest13_1
            case hi13_1 => simp only [List.getElem?_toArray, List.getElem?_cons_succ, List.getElem?_cons_zero] <;> rfl
            case hs13_1 => kernel_rfl
            case hf13_1 => kernel_rfl
            case hr13_1 => kernel_rfl
            case hQ13_1 => exact fun _ _ _ h => h
            case hy13_1 => exact Or.inl ⟨by rfl, fun w hSw => by have q1 := cell_keep d1 hSw; have q2 := cell_keep d2 hSw; go_simp <;> (try with_reducible rfl)⟩
            simp only [Act.put, List.setIfInBounds_toArray, List.set_cons_zero, List.set_cons_succ]
            refine wpAnyH_done (by kernel_rfl) ?_ _
            refine NoPanic.normal ?_
            go_wp2_with fail
            go_roundw
            case rel => exact ⟨i + 1, l, by omega, by go_num, hln, HO.out, HP.out, HC.out, K.drew⟩
            case measure => simp [intOf]; omega
          | true =>
            have HC := Lib.hid (HI2.out (by have := decide_eq_true_iff.1 hc; omega))
            clear HI HI2 HI3
            go_wp2_with fail
            refine wp_region_noPanic ?_
            refine wp_region_held_drew (S := (fun w' => Keeps w2 w')) (by kernel_rfl) (Touch.refl _ w2).drew (fun hHeld => ?_)
            refine' wpAnyH_take (i := 0) ?hi0_2 ?hs0_2 ?hf0_2 ?hr0_2 ?hQ0_2 ?hy0_2 (by assumption) ?rest0_2
            case hi0_2 => simp only [List.getElem?_toArray, List.getElem?_cons_zero] <;> rfl
            case hs0_2 => kernel_rfl
            case hf0_2 => kernel_rfl
            case hr0_2 => kernel_rfl
            case hQ0_2 => exact fun _ _ _ h => h
            case hy0_2 => exact Or.inl ⟨by rfl, fun w hSw => by have q1 := cell_keep d1 hSw; have q2 := cell_keep d2 hSw; go_simp <;> (try with_reducible rfl)⟩
            simp only [Act.put, List.setIfInBounds_toArray, List.set_cons_zero, List.set_cons_succ]
            refine' wpAnyH_take (i := 1) ?hi1_2 ?hs1_2 ?hf1_2 ?hr1_2 ?hQ1_2 ?hy1_2 (by assumption) ?rest1_2
            case hi1_2 => simp only [List.getElem?_toArray, List.getElem?_cons_succ, List.getElem?_cons_zero] <;> rfl
            case hs1_2 => kernel_rfl
            case hf1_2 => kernel_rfl
            case hr1_2 => kernel_rfl
            case hQ1_2 => exact fun _ _ _ h => h
            case hy1_2 => exact Or.inl ⟨by rfl, fun w hSw => by have q1 := cell_keep d1 hSw; have q2 := cell_keep d2 hSw; go_simp <;> (try with_reducible rfl)⟩
            simp only [Act.put, List.setIfInBounds_toArray, List.set_cons_zero, List.set_cons_succ]
            refine' wpAnyH_take (i := 2) ?hi2_2 ?hs2_2 ?hf2_2 ?hr2_2 ?hQ2_2 ?hy2_2 (by assumption) ?rest2_2
            case hi2_2 => simp only [List.getElem?_toArray, List.getElem?_cons_succ, List.getElem?_cons_zero] <;> rfl
            case hs2_2 => kernel_rfl
            case hf2_2 => kernel_rfl
            case hr2_2 => kernel_rfl
            case hQ2_2 => exact fun _ _ _ h => h
            case hy2_2 => exact Or.inl ⟨by rfl, fun w hSw => by have q1 := cell_keep d1 hSw; have q2 := cell_keep d2 hSw; go_simp <;> (try with_reducible rfl)⟩
            simp only [Act.put, List.setIfInBounds_toArray, List.set_cons_zero, List.set_cons_succ]
            refine' wpAnyH_take (i := 3) ?hi3_2 ?hs3_2 ?hf3_2 ?hr3_2 ?hQ3_2 ?hy3_2 (by assumption) ?rest3_2
            case hi3_2 => simp only [List.getElem?_toArray, List.getElem?_cons_succ, List.getElem?_cons_zero] <;> rfl
            case hs3_2 => kernel_rfl
            case hf3_2 => kernel_rfl
            case hr3_2 => kernel_rfl
            case hQ3_2 => exact fun _ _ _ h => h
            case hy3_2 => exact Or.inl ⟨by rfl, fun w hSw => by have q1 := cell_keep d1 hSw; have q2 := cell_keep d2 hSw; go_simp <;> (try with_reducible rfl)⟩
            simp only [Act.put, List.setIfInBounds_toArray, List.set_cons_zero, List.set_cons_succ]
            refine' wpAnyH_take (i := 4) ?hi4_2 ?hs4_2 ?hf4_2 ?hr4_2 ?hQ4_2 ?hy4_2 (by assumption) ?rest4_2
            case hi4_2 => simp only [List.getElem?_toArray, List.getElem?_cons_succ, List.getElem?_cons_zero] <;> rfl
            case hs4_2 => kernel_rfl
            case hf4_2 => kernel_rfl
            case hr4_2 => kernel_rfl
            case hQ4_2 => exact fun _ _ _ h => h
            case hy4_2 => exact Or.inl ⟨by rfl, fun w hSw => by have q1 := cell_keep d1 hSw; have q2 := cell_keep d2 hSw; go_simp <;> (try with_reducible rfl)⟩
            simp only [Act.put, List.setIfInBounds_toArray, List.set_cons_zero, List.set_cons_succ]
            refine' wpAnyH_take (i := 5) ?hi5_2 ?hs5_2 ?hf5_2 ?hr5_2 ?hQ5_2 ?hy5_2 (by assumption) ?rest5_2
            case hi5_2 => simp only [List.getElem?_toArray, List.getElem?_cons_succ, List.getElem?_cons_zero] <;> rfl
            case hs5_2 => kernel_rfl
            case hf5_2 => kernel_rfl
            case hr5_2 => kernel_rfl
            case hQ5_2 => exact fun _ _ _ h => h
            case hy5_2 => exact Or.inl ⟨by rfl, fun w hSw => by have q1 := cell_keep d1 hSw; have q2 := cell_keep d2 hSw; go_simp <;> (try with_reducible rfl)⟩
            simp only [Act.put, List.setIfInBounds_toArray, List.set_cons_zero, List.set_cons_succ]
            refine' wpAnyH_take (i := 6) ?hi6_2 ?hs6_2 ?hf6_2 ?hr6_2 ?hQ6_2 ?hy6_2 (by assumption) ?rest6_2
            case hi6_2 => simp only [List.getElem?_toArray, List.getElem?_cons_succ, List.getElem?_cons_zero] <;> rfl
            case hs6_2 => kernel_rfl
            case hf6_2 => kernel_rfl
            case hr6_2 => kernel_rfl
            case hQ6_2 => exact fun _ _ _ h => h
            case hy6_2 => exact Or.inl ⟨by rfl, fun w hSw => by have q1 := cell_keep d1 hSw; have q2 := cell_keep d2 hSw; go_simp <;> (try with_reducible rfl)⟩
            simp only [Act.put, List.setIfInBounds_toArray, List.set_cons_zero, List.set_cons_succ]
            refine' wpAnyH_take (i := 7) ?hi7_2 ?hs7_2 ?hf7_2 ?hr7_2 ?hQ7_2 ?hy7_2 (by assumption) ?rest7_2
            case hi7_2 => simp only [List.getElem?_toArray, List.getElem?_cons_succ, List.getElem?_cons_zero] <;> rfl
            case hs7_2 => kernel_rfl
            case hf7_2 => kernel_rfl
            case hr7_2 => kernel_rfl
            case hQ7_2 => exact fun _ _ _ h => h
            case hy7_2 => exact Or.inl ⟨by rfl, fun w hSw => by have q1 := cell_keep d1 hSw; have q2 := cell_keep d2 hSw; go_simp <;> (try with_reducible rfl)⟩
            simp only [Act.put, List.setIfInBounds_toArray, List.set_cons_zero, List.set_cons_succ]
            refine' wpAnyH_take (i := 8) ?hi8_2 ?hs8_2 ?hf8_2 ?hr8_2 ?hQ8_2 ?hy8_2 (by assumption) ?rest8_2
            case hi8_2 => simp only [List.getElem?_toArray, List.getElem?_cons_succ, List.getElem?_cons_zero] <;> rfl
            case hs8_2 => kernel_rfl
            case hf8_2 => kernel_rfl
            case hr8_2 => kernel_rfl
            case hQ8_2 => exact fun _ _ _ h => h
            case hy8_2 => exact Or.inl ⟨by rfl, fun w hSw => by have q1 := cell_keep d1 hSw; have q2 := cell_keep d2 hSw; go_simp <;> (try with_reducible rfl)⟩
            simp only [Act.put, List.setIfInBounds_toArray, List.set_cons_zero, List.set_cons_succ]
            refine' wpAnyH_take (i := 9) ?hi9_2 ?hs9_2 ?hf9_2 ?hr9_2 ?hQ9_2 ?hy9_2 (by assumption) ?rest9_2
            case hi9_2 => simp only [List.getElem?_toArray, List.getElem?_cons_succ, List.getElem?_cons_zero] <;> rfl
            case hs9_2 => kernel_rfl
            case hf9_2 => kernel_rfl
            case hr9_2 => kernel_rfl
            case hQ9_2 => exact fun _ _ _ h => h
            case hy9_2 => exact Or.inl ⟨by rfl, fun w hSw => by have q1 := cell_keep d1 hSw; have q2 := cell_keep d2 hSw; go_simp <;> (try with_reducible rfl)⟩
            simp only [Act.put, List.setIfInBounds_toArray, List.set_cons_zero, List.set_cons_succ]
            refine' wpAnyH_take (i := 10) ?hi10_2 ?hs10_2 ?hf10_2 ?hr10_2 ?hQ10_2 ?hy10_2 (by assumption) ?rest10_2
            case hi10_2 => simp only [List.getElem?_toArray, List.getElem?_cons_succ, List.getElem?_cons_zero] <;> rfl
            case hs10_2 => kernel_rfl
            case hf10_2 => kernel_rfl
            case hr10_2 => kernel_rfl
            case hQ10_2 => exact fun _ _ _ h => h
            case hy10_2 => exact Or.inl ⟨by rfl, fun w hSw => by have q1 := cell_keep d1 hSw; have q2 := cell_keep d2 hSw; go_simp <;> (try with_reducible rfl)⟩
            simp only [Act.put, List.setIfInBounds_toArray, List.set_cons_zero, List.set_cons_succ]
            refine' wpAnyH_take (i := 11) ?hi11_2 ?hs11_2 ?hf11_2 ?hr11_2 ?hQ11_2 ?hy11_2 (by assumption) ?rest11_2
            case hi11_2 => simp only [List.getElem?_toArray, List.getElem?_cons_succ, List.getElem?_cons_zero] <;> rfl
            case hs11_2 => kernel_rfl
            case hf11_2 => kernel_rfl
            case hr11_2 => kernel_rfl
            case hQ11_2 => exact fun _ _ _ h => h
            case hy11_2 => exact Or.inl ⟨by rfl, fun w hSw => by have q1 := cell_keep d1 hSw; have q2 := cell_keep d2 hSw; go_simp <;> (try with_reducible rfl)⟩
            simp only [Act.put, List.setIfInBounds_toArray, List.set_cons_zero, List.set_cons_succ]
            refine' wpAnyH_take (i := 12) ?hi12_2 ?hs12_2 ?hf12_2 ?hr12_2 ?hQ12_2 ?hy12_2 (by assumption) ?rest12_2
            case hi12_2 => simp only [List.getElem?_toArray, List.getElem?_cons_succ, List.getElem?_cons_zero] <;> rfl
            case hs12_2 => kernel_rfl
            case hf12_2 => kernel_rfl
            case hr12_2 => kernel_rfl
            case hQ12_2 => exact fun _ _ _ h => h
            case hy12_2 => exact Or.inl ⟨by rfl, fun w hSw => by have q1 := cell_keep d1 hSw; have q2 := cell_keep d2 hSw; go_simp <;> (try with_reducible rfl)⟩
            simp only [Act.put, List.setIfInBounds_toArray, List.set_cons_zero, List.set_cons_succ]
            refine' wpAnyH_take (i := 13) ?hi13_2 ?hs13_2 ?hf13_2 ?hr13_2 ?hQ13_2 ?hy13_2 (by assumption) ?rest13_2
            case hi13_2 => simp only [List.getElem?_toArray, List.getElem?_cons_succ, List.getElem?_cons_zero] <;> rfl
            case hs13_2 => kernel_rfl
            case hf13_2 => kernel_rfl
            case hr13_2 => kernel_rfl
            case hQ13_2 => exact fun _ _ _ h => h
            case hy13_2 => exact Or.inl ⟨by rfl, fun w hSw => by have q1 := cell_keep d1 hSw; have q2 := cell_keep d2 hSw; go_simp <;> (try with_reducible rfl)⟩
            simp only [Act.put, List.setIfInBounds_toArray, List.set_cons_zero, List.set_cons_succ]
            refine wpAnyH_done (by kernel_rfl) ?_ _
            refine NoPanic.normal ?_
            go_wp2_with fail
            go_region
            go_wp2_with fail
            go_roundw
            case rel => exact ⟨k, swapL l k, by go_num, by rw [HSl]; exact hln, HOs.out, HSw.out.trans HP.out, HC.out, Touch.drew (Touch.drew (Touch.setCell (Touch.setCell K (fun hlt => absurd hlt (by show ¬ g < w.heap.size; omega)) _) (fun hlt => absurd hlt (by show ¬ g < w.heap.size; omega)) _))⟩
            case measure => have := HQ.out; simp [intOf]; omega
    · obtain rfl : i = n := by omega
      clear hown
      go_wp2_with fail
      go_ret
      exact ⟨_, l, rfl, HO2.out, fun a h1 => HU2.out a (a + 1) (by omega) (by omega), HP2.out, K⟩

end Go.Proofs.YtkjgfblkbjlohaaGreat
