/- slices.Clone of integers and of classes; class.New; mem.Words. -/
import Derived.Test.YtkjgfblkbjlohaaGreatG16
import Derived.Test.YtkjgfblkbjlohaaGreatG06
import Derived.WalkSpells
set_option linter.all false

namespace Go.Proofs.YtkjgfblkbjlohaaGreat
open Go.RowKit

/-- A row of the call's own, as a slice that reads. -/
theorem own_rd {w : World} {base : Nat} {E : TypeId} {size : Nat} {v : Value} {n : Nat} {xs : List Value} (h : w.ownsRow base E size v n xs) :
    ∃ A cap, v = .slice A n cap ∧ Rd w A (n * size) (fun j => xs.getD j undef) ∧ ∀ b off, A = some ⟨b, off, none⟩ → base ≤ b ∧ b < w.heap.size := by
  have h' := h
  obtain ⟨hl, h2⟩ := h
  rcases h2 with ⟨rfl, rfl⟩ | ⟨g, cap, cur, rfl, hb, hg, h3, h4, h5, h6⟩
  · exact ⟨none, 0, rfl, fun h => absurd h (by omega), fun b off e => by cases e⟩
  · have hlt := (Array.getElem?_eq_some_iff.1 hg).1
    refine ⟨_, _, rfl, fun hn => ⟨g, 0, rfl, hlt, fun j hj => ?_⟩, fun b off e => by cases e; exact ⟨hb, hlt⟩⟩
    have hc := World.ownsRow.cells h' (g := g) rfl j (xs.getD j undef) (by
      rw [List.getD_eq_getElem?_getD, List.getElem?_eq_getElem (by omega)]; rfl)
    rw [add_plain] at hc
    exact hc
/-- A slice that reads is appended to a row of the call's own. -/
theorem app_rd {ops : Array Oper} {rest : List Oper} {o : Oper} {a : Act} {Q : Exit → Act → World → Prop} {w : World} (hgd : o.guard = none) (s x : Operand) {T E : TypeId}
    (ho : o.op = .call { callee := .builtin .append, args := #[s, x], argTypes := #[T, T] })
    {size bytes : Nat} {z : Value} (hT : Tryz.prog.underlying T = some (.slice E)) (hinfo : (Tryz.prog.info? E).map (fun i => (i.zero, i.size, i.bytes)) = some (some z, size, bytes)) (hzs : z.cells.size = size) (hsz : 0 < size)
    (base : Nat) (v : Value) (n : Nat) (xs : List Value) (hs : a.eval s = v) (hown : w.ownsRow base E size v n xs)
    (ad : Addr) (m c : Nat) (hx : a.eval x = .slice (some ad) m c) (F : Nat → Value) (hr : Rd w (some ad) (m * size) F) (h1 : ∀ j, j < m * size → (F j).oneCell' = true)
    (h63 : n + m ≤ 1000000) (hby : bytes ≤ 64) (hbase : base ≤ w.heap.size)
    (h : ∀ v' w', w'.ownsRow base E size v' (n + m) (xs ++ (List.range (m * size)).map F) → w.grownBy w' v.ownBlock → (v'.ownBlock = v.ownBlock ∨ v'.ownBlock = some w.heap.size) → wpList Tryz.prog ops Q rest (a.put o.dst v') w') :
    wpList Tryz.prog ops Q (o :: rest) a w := by
  obtain ⟨i0, hi, hz0, hz1, hz2⟩ := info_parts hinfo
  refine wpList_append_own_at _ hgd s x T ho base E i0 z size bytes hT hi hz0 hz1 hz2 hzs hsz v n xs hs hown ad m c ((List.range (m * size)).map F) hx (by simp) ?_ ?_ ?_ ?_ hbase ?_
  · intro j u hu
    have hj : j < m * size := by
      rcases Nat.lt_or_ge j (m * size) with h' | h'
      · exact h'
      · rw [List.getElem?_eq_none (by simpa using h')] at hu; cases hu
    simp [hj] at hu
    subst hu
    obtain ⟨b, off, e, _, hc⟩ := hr (by omega)
    cases e
    rw [add_plain]
    exact hc j hj
  · intro u hu
    simp at hu
    obtain ⟨j, hj, rfl⟩ := hu
    exact h1 j hj
  · unfold maxLen; omega
  · have : (n + m) * bytes ≤ 1000000 * 64 := Nat.mul_le_mul h63 hby
    omega
  · intro v' w' a1 a2 _ a4
    exact h v' w' a1 a2 a4
theorem getD_map {F : Nat → Value} {k j : Nat} (hj : j < k) : ((List.range k).map F).getD j undef = F j := by
  rw [List.getD_eq_getElem?_getD]; simp [hj]
theorem info_cls : (Tryz.prog.info? 111).map (fun i => (i.zero, i.size, i.bytes)) = some (some (.agg #[.int .i64 0, .int .i64 0, .int .i64 0, .bool false]), 4, 32) := by kernel_rfl
theorem own_new (w : World) (E : TypeId) (size N : Nat) (hN : w.heap.size = N) : (w.alloc (.cells #[] E)).ownsRow N E size (.slice (some ⟨N, 0, none⟩) 0 0) 0 [] := by
  subst hN
  refine ⟨by simp, .inr ⟨w.heap.size, 0, #[], rfl, Nat.le_refl _, heap_alloc_new w _, Nat.le_refl _, by simp [maxLen], by simp, by simp⟩⟩
theorem Keeps.grown {w0 w w' : World} {row : Option Nat} (h : Keeps w0 w) (hg : w.grownBy w' row) (hr : ∀ k, row = some k → w0.heap.size ≤ k) : Keeps w0 w' :=
  Touch.grown h hg (fun k e hlt => by have := hr k e; omega)

/-- A list of integers that is cloned. -/
theorem clone_ints (ad : Addr) (len cap : Nat) (L : Nat → Int) (w : World) (hr : Rd w (some ad) len (intF .i64 L)) (hl : len ≤ 1000000) :
    Calls Tryz.prog 27 #[.slice (some ad) len cap] w fun e w' => ∃ v, e = .returned v ∧ OwnInts w' w.heap.size v ((List.range len).map L) ∧ Keeps w w' := by
  have hr' : Rd (w.alloc (.cells #[] 3)) (some ad) (len * 1) (intF .i64 L) := by rw [Nat.mul_one]; exact hr.keep ((Touch.refl _ w).alloc _)
  have HR := Lib.hid hr'
  clear hr hr'
  have q22 : ∀ (w : World) (a : Option Addr) (n c n' c' : Nat), (binOp .eql 34 (.slice a n c) (.slice none n' c')).run Tryz.prog w = .ok (.bool a.isNone) w := fun w a n c n' c' => Lib.run_eql_slice_nil w _ _ a n c n' c' Tryz.underlying34
  go_enter Tryz.func27, Tryz.ntmps27
  go_wp2_with (at_builtin; refine app_rd ?_ (.tmp 5) (.tmp 6) (T := 34) (E := 3) ?_ Tryz.underlying34 info_int rfl (by decide) w.heap.size _ 0 [] ?_ (own_new w _ 1 _ rfl) ad len cap ?_ (intF .i64 L) HR.out (fun j _ => rfl) (by omega) (by decide) (by simp) ?_; rfl; rfl; rfl; rfl; intro v' w' hown hgr hbl)
  go_ret
  refine ⟨v', rfl, ?_, Keeps.grown ((Touch.refl _ w).alloc _) hgr (fun k e => by simp [Value.ownBlock] at e; omega)⟩
  unfold OwnInts
  simp only [Nat.zero_add, Nat.mul_one, List.nil_append] at hown
  have e : ints ((List.range len).map L) = (List.range len).map (intF .i64 L) := by simp [ints, intF, Function.comp_def]
  rw [e, List.length_map, List.length_range]
  exact hown
theorem clone_nil (w : World) : Calls Tryz.prog 27 #[.slice none 0 0] w fun e w' => e = .returned (.slice none 0 0) ∧ Keeps w w' := by
  have q22 : ∀ (w : World) (a : Option Addr) (n c n' c' : Nat), (binOp .eql 34 (.slice a n c) (.slice none n' c')).run Tryz.prog w = .ok (.bool a.isNone) w := fun w a n c n' c' => Lib.run_eql_slice_nil w _ _ a n c n' c' Tryz.underlying34
  go_enter Tryz.func27, Tryz.ntmps27
  go_wp2_with fail
  go_ret
  exact ⟨rfl, Touch.refl _ w⟩
theorem clone_cls (ad : Addr) (len cap : Nat) (C : Nat → Cl) (w : World) (hr : Rd w (some ad) (len * 4) (clF C)) (hl : len ≤ 1000000) :
    Calls Tryz.prog 53 #[.slice (some ad) len cap] w fun e w' => ∃ A' cap', e = .returned (.slice A' len cap') ∧ Rd w' A' (len * 4) (clF C) ∧ (∀ b off, A' = some ⟨b, off, none⟩ → w.heap.size ≤ b ∧ b < w'.heap.size) ∧ Keeps w w' := by
  have HR := Lib.hid (hr.keep ((Touch.refl (fun _ => False) w).alloc (.cells #[] 111)))
  have h1 : ∀ j, j < len * 4 → (clF C j).oneCell' = true := fun j _ => by unfold clF; split <;> first | rfl | (split <;> first | rfl | (split <;> rfl))
  have H1 := Lib.hid h1
  clear hr h1
  have q22 : ∀ (w : World) (a : Option Addr) (n c n' c' : Nat), (binOp .eql 22 (.slice a n c) (.slice none n' c')).run Tryz.prog w = .ok (.bool a.isNone) w := fun w a n c n' c' => Lib.run_eql_slice_nil w _ _ a n c n' c' Tryz.underlying22
  go_enter Tryz.func53, Tryz.ntmps53
  go_wp2_with (at_builtin; refine app_rd ?_ (.tmp 5) (.tmp 6) (T := 22) (E := 111) ?_ Tryz.underlying22 info_cls rfl (by decide) w.heap.size _ 0 [] ?_ (own_new w _ 4 _ rfl) ad len cap ?_ (clF C) HR.out H1.out (by omega) (by decide) (by simp) ?_; rfl; rfl; rfl; rfl; intro v' w' hown hgr hbl)
  go_ret
  obtain ⟨A', cap', e, hrd, hb⟩ := own_rd hown
  refine ⟨A', cap', ?_, ?_, hb, Keeps.grown ((Touch.refl _ w).alloc _) hgr (fun k e => by simp [Value.ownBlock] at e; omega)⟩
  · show Ending.returned v' = _
    rw [e, Nat.zero_add]
  · rw [Nat.zero_add] at hrd
    exact hrd.congr (fun j hj => by rw [List.nil_append]; exact getD_map hj)
theorem clone_cnil (w : World) : Calls Tryz.prog 53 #[.slice none 0 0] w fun e w' => e = .returned (.slice none 0 0) ∧ Keeps w w' := by
  have q22 : ∀ (w : World) (a : Option Addr) (n c n' c' : Nat), (binOp .eql 22 (.slice a n c) (.slice none n' c')).run Tryz.prog w = .ok (.bool a.isNone) w := fun w a n c n' c' => Lib.run_eql_slice_nil w _ _ a n c n' c' Tryz.underlying22
  go_enter Tryz.func53, Tryz.ntmps53
  go_wp2_with fail
  go_ret
  exact ⟨rfl, Touch.refl _ w⟩
/-- Either of the two. -/
theorem clone_cany (A : Option Addr) (len cap : Nat) (hA : A = none → len = 0 ∧ cap = 0) (C : Nat → Cl) (w : World) (hr : Rd w A (len * 4) (clF C)) (hl : len ≤ 1000000) :
    Calls Tryz.prog 53 #[.slice A len cap] w fun e w' => ∃ A' cap', e = .returned (.slice A' len cap') ∧ Rd w' A' (len * 4) (clF C) ∧ (∀ b off, A' = some ⟨b, off, none⟩ → w.heap.size ≤ b ∧ b < w'.heap.size) ∧ Keeps w w' := by
  cases A with
  | none =>
    obtain ⟨rfl, rfl⟩ := hA rfl
    refine (clone_cnil w).mono ?_
    rintro e w' ⟨rfl, k⟩
    exact ⟨none, 0, rfl, fun h => absurd h (by omega), fun b off e => (by cases e), k⟩
  | some ad => exact clone_cls ad len cap C w hr hl

/-- A table of classes that can be. -/
theorem cnew_yes (A : Option Addr) (n cap : Nat) (hA : A = none → n = 0 ∧ cap = 0) (C : Nat → Cl) (w : World) (hr : Rd w A (n * 4) (clF C)) (hn : n < 64) (hC : ∀ j, j < n → rgB (C j) = true) :
    Calls Tryz.prog 15 #[.slice A n cap] w fun e w' => ∃ bt A' cap', e = .returned (.tuple #[.pointer (some ⟨bt, 0, none⟩), .int .i64 0]) ∧ Tb w' bt A' n cap' C ∧ w.heap.size ≤ bt ∧ (∀ b off, A' = some ⟨b, off, none⟩ → w.heap.size ≤ b ∧ b < w'.heap.size) ∧ Keeps w w' := by
  have HF := Lib.hid (ccontains_any A n cap C w hr (by omega))
  have HCl := Lib.hid (fun w' (k : Keeps w w') => clone_cany A n cap hA C w' (hr.keep k) (by omega))
  have HC := Lib.hid hC
  clear hr hC hA
  go_enter Tryz.func15, Tryz.ntmps15
  go_wp2_with fail
  refine Calls.mono HF.out ?_
  rintro e w1 ⟨b, rfl, hb, k1⟩
  obtain rfl : b = false := by
    cases b with
    | false => rfl
    | true => exact absurd HC.out (hb.1 rfl)
  clear hb
  go_wp2_with fail
  refine (HCl.out _ k1).mono ?_
  rintro e w2 ⟨A', cap', rfl, hrd, hfr, k2⟩
  have HRd := Lib.hid hrd
  have HFr := Lib.hid hfr
  clear hrd hfr
  go_wp2_with fail
  go_ret2
  have B1 := BL.new w2 115 [.slice A' n cap']
  refine ⟨w2.heap.size, A', cap', rfl, ⟨B1.congr (fun j hj => ?_), HRd.out.keep ((Touch.refl _ w2).alloc _), hn, fun j hj => rgB_ok (HC.out j hj)⟩, Nat.le_trans k1.size k2.size, fun b off e => ⟨Nat.le_trans k1.size (HFr.out b off e).1, by have := (HFr.out b off e).2; simp; omega⟩, (k1.trans k2).alloc _⟩
  cases (show j = 0 by simp at hj; omega)
  rfl
theorem cnew_bad (A : Option Addr) (n cap : Nat) (C : Nat → Cl) (w : World) (hr : Rd w A (n * 4) (clF C)) (hn : n ≤ 1000000) (hC : ¬ ∀ j, j < n → rgB (C j) = true) :
    Calls Tryz.prog 15 #[.slice A n cap] w fun e w' => e = .returned (.tuple #[.pointer none, .int .i64 1]) ∧ Keeps w w' := by
  have HF := Lib.hid (ccontains_any A n cap C w hr (by omega))
  have HC := Lib.hid hC
  clear hr hC
  go_enter Tryz.func15, Tryz.ntmps15
  go_wp2_with fail
  refine Calls.mono HF.out ?_
  rintro e w1 ⟨b, rfl, hb, k1⟩
  obtain rfl : b = true := hb.2 HC.out
  clear hb
  go_wp2_with fail
  go_ret2
  exact ⟨rfl, k1⟩
theorem cnew_full (A : Option Addr) (n cap : Nat) (C : Nat → Cl) (w : World) (hr : Rd w A (n * 4) (clF C)) (hn : 64 ≤ n ∧ n ≤ 1000000) (hC : ∀ j, j < n → rgB (C j) = true) :
    Calls Tryz.prog 15 #[.slice A n cap] w fun e w' => e = .returned (.tuple #[.pointer none, .int .i64 3]) ∧ Keeps w w' := by
  obtain ⟨n1, n2⟩ := hn
  have HF := Lib.hid (ccontains_any A n cap C w hr (by omega))
  have HC := Lib.hid hC
  clear hr hC
  go_enter Tryz.func15, Tryz.ntmps15
  go_wp2_with fail
  refine Calls.mono HF.out ?_
  rintro e w1 ⟨b, rfl, hb, k1⟩
  obtain rfl : b = false := by
    cases b with
    | false => rfl
    | true => exact absurd HC.out (hb.1 rfl)
  clear hb
  go_wp2_with fail
  go_ret2
  exact ⟨rfl, k1⟩

/-- Some words as a list. -/
theorem words_yes (ba bw n : Nat) (f : Nat → Int) (w : World) (h : Ar w ba bw n f) (a k : Int) (h0 : 0 ≤ a) (h1 : 0 ≤ k) (h2 : a + k ≤ n) :
    Calls Tryz.prog 12 #[.pointer (some ⟨ba, 0, none⟩), .int .i64 a, .int .i64 k] w fun e w' => ∃ v, e = .returned (.tuple #[v, .int .i64 0]) ∧ OwnInts w' w.heap.size v ((List.range k.toNat).map fun j => f (a.toNat + j)) ∧ Keeps w w' := by
  obtain ⟨i, rfl⟩ := Int.eq_ofNat_of_zero_le h0
  obtain ⟨q, rfl⟩ := Int.eq_ofNat_of_zero_le h1
  have hle := h.le
  by_cases hq : q = 0
  · subst hq
    have HS := Lib.hid (stretch_zero ba bw n f w h i (by omega))
    clear h
    go_enter Tryz.func12, Tryz.ntmps12
    go_wp2_with fail
    refine Calls.mono HS.out ?_
    rintro e w1 ⟨rfl, rfl⟩
    go_wp2_with fail
    refine Calls.mono (clone_nil _) ?_
    rintro e w1 ⟨rfl, k1⟩
    go_wp2_with fail
    go_ret2
    exact ⟨_, rfl, OwnInts.nil_ _ _, k1⟩
  · have HS := Lib.hid (stretch_yes ba bw n f w h i q (by omega) (by omega))
    have hrd : Rd w (some ⟨bw, i, none⟩) q (intF .i64 fun j => f (i + j)) := fun _ => ⟨bw, i, rfl, h.lt2, fun j hj => h.body.cell (j := i + j) (by omega)⟩
    have HC := Lib.hid (clone_ints ⟨bw, i, none⟩ q (n - i) (fun j => f (i + j)) w hrd (by omega))
    clear h hrd
    go_enter Tryz.func12, Tryz.ntmps12
    go_wp2_with fail
    refine Calls.mono HS.out ?_
    rintro e w1 ⟨rfl, rfl⟩
    go_wp2_with fail
    refine Calls.mono HC.out ?_
    rintro e w1 ⟨v, rfl, ho, k1⟩
    have HO := Lib.hid ho
    clear ho
    go_wp2_with fail
    go_ret2
    exact ⟨_, rfl, HO.out, k1⟩

end Go.Proofs.YtkjgfblkbjlohaaGreat
