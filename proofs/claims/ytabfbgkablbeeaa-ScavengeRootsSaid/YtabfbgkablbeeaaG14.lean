/- Layer 6, object: Walk. -/
import Derived.Test.YtabfbgkablbeeaaG13
import Derived.Test.YtabfbgkablbeeaaG07
import Derived.WalkSpells
import Derived.Test.YtabfbgkablbeeaaG12
import Derived.Test.YtabfbgkablbeeaaG02
import Derived.ScopeJumps
set_option linter.all false

namespace Go.Proofs.Ytabfbgkablbeeaa
open Go.RowKit

/-- A row of the call's own, as a slice that reads. -/
theorem own_rd {w : World} {base : Nat} {E : TypeId} {size : Nat} {v : Value} {n : Nat} {xs : List Value} (h : w.ownsRow base E size v n xs) :
    ∃ A cap, v = .slice A n cap ∧ Rd w A (n * size) (fun j => xs.getD j undef) ∧ ∀ b off, A = some ⟨b, off, none⟩ → base ≤ b ∧ b < w.heap.size := by
  have h' := h
  obtain ⟨hl, h2⟩ := h
  rcases h2 with ⟨rfl, rfl⟩ | ⟨g, cap, cur, rfl, hb, hg, h3, h4, h5, h6⟩
  · exact ⟨none, 0, rfl, fun h => absurd h (by omega), fun b off e => by cases e⟩
  · have hlt := (Array.getElem?_eq_some_iff.1 hg).1
    refine ⟨_, _, rfl, fun hn => ⟨g, 0, rfl, hlt, fun j hj => ?_⟩, fun b off e => by cases e; exact ⟨hb, hlt⟩⟩
    have hc := World.ownsRow.cells h' (g := g) rfl j (xs.getD j undef) (by
      rw [List.getD_eq_getElem?_getD, List.getElem?_eq_getElem (by omega)]; rfl)
    rw [add_plain] at hc
    exact hc
/-- A slice that reads is appended to a row of the call's own. -/
theorem app_rd {ops : Array Oper} {rest : List Oper} {o : Oper} {a : Act} {Q : Exit → Act → World → Prop} {w : World} (hgd : o.guard = none) (s x : Operand) {T E : TypeId}
    (ho : o.op = .call { callee := .builtin .append, args := #[s, x], argTypes := #[T, T] })
    {size bytes : Nat} {z : Value} (hT : Try.prog.underlying T = some (.slice E)) (hinfo : (Try.prog.info? E).map (fun i => (i.zero, i.size, i.bytes)) = some (some z, size, bytes)) (hzs : z.cells.size = size) (hsz : 0 < size)
    (base : Nat) (v : Value) (n : Nat) (xs : List Value) (hs : a.eval s = v) (hown : w.ownsRow base E size v n xs)
    (ad : Addr) (m c : Nat) (hx : a.eval x = .slice (some ad) m c) (F : Nat → Value) (hr : Rd w (some ad) (m * size) F) (h1 : ∀ j, j < m * size → (F j).oneCell' = true)
    (h63 : n + m ≤ 1000000) (hby : bytes ≤ 64) (hbase : base ≤ w.heap.size)
    (h : ∀ v' w', w'.ownsRow base E size v' (n + m) (xs ++ (List.range (m * size)).map F) → w.grownBy w' v.ownBlock → (v'.ownBlock = v.ownBlock ∨ v'.ownBlock = some w.heap.size) → wpList Try.prog ops Q rest (a.put o.dst v') w') :
    wpList Try.prog ops Q (o :: rest) a w := by
  obtain ⟨i0, hi, hz0, hz1, hz2⟩ := info_parts hinfo
  refine wpList_append_own_at _ hgd s x T ho base E i0 z size bytes hT hi hz0 hz1 hz2 hzs hsz v n xs hs hown ad m c ((List.range (m * size)).map F) hx (by simp) ?_ ?_ ?_ ?_ hbase ?_
  · intro j u hu
    have hj : j < m * size := by
      rcases Nat.lt_or_ge j (m * size) with h' | h'
      · exact h'
      · rw [List.getElem?_eq_none (by simpa using h')] at hu; cases hu
    simp [hj] at hu
    subst hu
    obtain ⟨b, off, e, _, hc⟩ := hr (by omega)
    cases e
    rw [add_plain]
    exact hc j hj
  · intro u hu
    simp at hu
    obtain ⟨j, hj, rfl⟩ := hu
    exact h1 j hj
  · unfold maxLen; omega
  · have : (n + m) * bytes ≤ 1000000 * 64 := Nat.mul_le_mul h63 hby
    omega
  · intro v' w' a1 a2 _ a4
    exact h v' w' a1 a2 a4
theorem getD_map {F : Nat → Value} {k j : Nat} (hj : j < k) : ((List.range k).map F).getD j undef = F j := by
  rw [List.getD_eq_getElem?_getD]; simp [hj]
theorem info_cls : (Try.prog.info? 53).map (fun i => (i.zero, i.size, i.bytes)) = some (some (.agg #[.int .i64 0, .int .i64 0, .int .i64 0, .bool false]), 4, 32) := by kernel_rfl
theorem own_new (w : World) (E : TypeId) (size N : Nat) (hN : w.heap.size = N) : (w.alloc (.cells #[] E)).ownsRow N E size (.slice (some ⟨N, 0, none⟩) 0 0) 0 [] := by
  subst hN
  refine ⟨by simp, .inr ⟨w.heap.size, 0, #[], rfl, Nat.le_refl _, heap_alloc_new w _, Nat.le_refl _, by simp [maxLen], by simp, by simp⟩⟩
theorem Keeps.grown {w0 w w' : World} {row : Option Nat} (h : Keeps w0 w) (hg : w.grownBy w' row) (hr : ∀ k, row = some k → w0.heap.size ≤ k) : Keeps w0 w' :=
  Touch.grown h hg (fun k e hlt => by have := hr k e; omega)

theorem clone_cls (ad : Addr) (len cap : Nat) (C : Nat → Cl) (w : World) (hr : Rd w (some ad) (len * 4) (clF C)) (hl : len ≤ 1000000) :
    Calls Try.prog 36 #[.slice (some ad) len cap] w fun e w' => ∃ A' cap', e = .returned (.slice A' len cap') ∧ Rd w' A' (len * 4) (clF C) ∧ (∀ b off, A' = some ⟨b, off, none⟩ → w.heap.size ≤ b ∧ b < w'.heap.size) ∧ Keeps w w' := by
  have HR := Lib.hid (hr.keep ((Touch.refl (fun _ => False) w).alloc (.cells #[] 53)))
  have h1 : ∀ j, j < len * 4 → (clF C j).oneCell' = true := fun j _ => by unfold clF; split <;> first | rfl | (split <;> first | rfl | (split <;> rfl))
  have H1 := Lib.hid h1
  clear hr h1
  have q22 : ∀ (w : World) (a : Option Addr) (n c n' c' : Nat), (binOp .eql 22 (.slice a n c) (.slice none n' c')).run Try.prog w = .ok (.bool a.isNone) w := fun w a n c n' c' => Lib.run_eql_slice_nil w _ _ a n c n' c' Try.underlying22
  go_enter Try.func36, Try.ntmps36
  go_wp2_with (at_builtin; refine app_rd ?_ (.tmp 5) (.tmp 6) (T := 22) (E := 53) ?_ Try.underlying22 info_cls rfl (by decide) w.heap.size _ 0 [] ?_ (own_new w _ 4 _ rfl) ad len cap ?_ (clF C) HR.out H1.out (by omega) (by decide) (by simp) ?_; rfl; rfl; rfl; rfl; intro v' w' hown hgr hbl)
  go_ret
  obtain ⟨A', cap', e, hrd, hb⟩ := own_rd hown
  refine ⟨A', cap', ?_, ?_, hb, Keeps.grown ((Touch.refl _ w).alloc _) hgr (fun k e => by simp [Value.ownBlock] at e; omega)⟩
  · show Ending.returned v' = _
    rw [e, Nat.zero_add]
  · rw [Nat.zero_add] at hrd
    exact hrd.congr (fun j hj => by rw [List.nil_append]; exact getD_map hj)
theorem clone_cnil (w : World) : Calls Try.prog 36 #[.slice none 0 0] w fun e w' => e = .returned (.slice none 0 0) ∧ Keeps w w' := by
  have q22 : ∀ (w : World) (a : Option Addr) (n c n' c' : Nat), (binOp .eql 22 (.slice a n c) (.slice none n' c')).run Try.prog w = .ok (.bool a.isNone) w := fun w a n c n' c' => Lib.run_eql_slice_nil w _ _ a n c n' c' Try.underlying22
  go_enter Try.func36, Try.ntmps36
  go_wp2_with fail
  go_ret
  exact ⟨rfl, Touch.refl _ w⟩
/-- Either of the two. -/
theorem clone_cany (A : Option Addr) (len cap : Nat) (hA : A = none → len = 0 ∧ cap = 0) (C : Nat → Cl) (w : World) (hr : Rd w A (len * 4) (clF C)) (hl : len ≤ 1000000) :
    Calls Try.prog 36 #[.slice A len cap] w fun e w' => ∃ A' cap', e = .returned (.slice A' len cap') ∧ Rd w' A' (len * 4) (clF C) ∧ (∀ b off, A' = some ⟨b, off, none⟩ → w.heap.size ≤ b ∧ b < w'.heap.size) ∧ Keeps w w' := by
  cases A with
  | none =>
    obtain ⟨rfl, rfl⟩ := hA rfl
    refine (clone_cnil w).mono ?_
    rintro e w' ⟨rfl, k⟩
    exact ⟨none, 0, rfl, fun h => absurd h (by omega), fun b off e => (by cases e), k⟩
  | some ad => exact clone_cls ad len cap C w hr hl

/-- A table of classes that can be. -/
theorem cnew_yes (A : Option Addr) (n cap : Nat) (hA : A = none → n = 0 ∧ cap = 0) (C : Nat → Cl) (w : World) (hr : Rd w A (n * 4) (clF C)) (hn : n < 64) (hC : ∀ j, j < n → rgB (C j) = true) :
    Calls Try.prog 11 #[.slice A n cap] w fun e w' => ∃ bt A' cap', e = .returned (.tuple #[.pointer (some ⟨bt, 0, none⟩), .int .i64 0]) ∧ Tb w' bt A' n cap' C ∧ w.heap.size ≤ bt ∧ (∀ b off, A' = some ⟨b, off, none⟩ → w.heap.size ≤ b ∧ b < w'.heap.size) ∧ Keeps w w' := by
  have HF := Lib.hid (ccontains_any A n cap C w hr (by omega))
  have HCl := Lib.hid (fun w' (k : Keeps w w') => clone_cany A n cap hA C w' (hr.keep k) (by omega))
  have HC := Lib.hid hC
  clear hr hC hA
  go_enter Try.func11, Try.ntmps11
  go_wp2_with fail
  refine Calls.mono HF.out ?_
  rintro e w1 ⟨b, rfl, hb, k1⟩
  obtain rfl : b = false := by
    cases b with
    | false => rfl
    | true => exact absurd HC.out (hb.1 rfl)
  clear hb
  go_wp2_with fail
  refine (HCl.out _ k1).mono ?_
  rintro e w2 ⟨A', cap', rfl, hrd, hfr, k2⟩
  have HRd := Lib.hid hrd
  have HFr := Lib.hid hfr
  clear hrd hfr
  go_wp2_with fail
  go_ret2
  have B1 := BL.new w2 81 [.slice A' n cap']
  refine ⟨w2.heap.size, A', cap', rfl, ⟨B1.congr (fun j hj => ?_), HRd.out.keep ((Touch.refl _ w2).alloc _), hn, fun j hj => rgB_ok (HC.out j hj)⟩, Nat.le_trans k1.size k2.size, fun b off e => ⟨Nat.le_trans k1.size (HFr.out b off e).1, by have := (HFr.out b off e).2; simp; omega⟩, (k1.trans k2).alloc _⟩
  cases (show j = 0 by simp at hj; omega)
  rfl
theorem cnew_bad (A : Option Addr) (n cap : Nat) (C : Nat → Cl) (w : World) (hr : Rd w A (n * 4) (clF C)) (hn : n ≤ 1000000) (hC : ¬ ∀ j, j < n → rgB (C j) = true) :
    Calls Try.prog 11 #[.slice A n cap] w fun e w' => e = .returned (.tuple #[.pointer none, .int .i64 1]) ∧ Keeps w w' := by
  have HF := Lib.hid (ccontains_any A n cap C w hr (by omega))
  have HC := Lib.hid hC
  clear hr hC
  go_enter Try.func11, Try.ntmps11
  go_wp2_with fail
  refine Calls.mono HF.out ?_
  rintro e w1 ⟨b, rfl, hb, k1⟩
  obtain rfl : b = true := hb.2 HC.out
  clear hb
  go_wp2_with fail
  go_ret2
  exact ⟨rfl, k1⟩
theorem cnew_full (A : Option Addr) (n cap : Nat) (C : Nat → Cl) (w : World) (hr : Rd w A (n * 4) (clF C)) (hn : 64 ≤ n ∧ n ≤ 1000000) (hC : ∀ j, j < n → rgB (C j) = true) :
    Calls Try.prog 11 #[.slice A n cap] w fun e w' => e = .returned (.tuple #[.pointer none, .int .i64 3]) ∧ Keeps w w' := by
  obtain ⟨n1, n2⟩ := hn
  have HF := Lib.hid (ccontains_any A n cap C w hr (by omega))
  have HC := Lib.hid hC
  clear hr hC
  go_enter Try.func11, Try.ntmps11
  go_wp2_with fail
  refine Calls.mono HF.out ?_
  rintro e w1 ⟨b, rfl, hb, k1⟩
  obtain rfl : b = false := by
    cases b with
    | false => rfl
    | true => exact absurd HC.out (hb.1 rfl)
  clear hb
  go_wp2_with fail
  go_ret2
  exact ⟨rfl, k1⟩

end Go.Proofs.Ytabfbgkablbeeaa

namespace Go.Proofs.Ytabfbgkablbeeaa
open Go.RowKit

/-- What is walked through. -/
inductive WalkR (T : Int → Th × Int) (z : Int) : Int → List Int → Int → Prop
  | done {a : Int} : z ≤ a → WalkR T z a [] 0
  | err {a : Int} : a < z → (T a).2 ≠ 0 → WalkR T z a [] (T a).2
  | far {a : Int} : a < z → (T a).2 = 0 → z - a < (T a).1.words → WalkR T z a [] 12
  | step {a : Int} {L : List Int} {e : Int} : a < z → (T a).2 = 0 → (T a).1.words ≤ z - a → WalkR T z (a + (T a).1.words) L e →
      WalkR T z a (if e = 0 then (if (T a).1.is then a :: L else L) else []) e
def WalkAt (T : Int → Th × Int) (z frm a : Int) (acc : List Int) : Prop := ∀ L e, WalkR T z a L e → WalkR T z frm (if e = 0 then acc ++ L else []) e
theorem WalkAt.start (T : Int → Th × Int) (z frm : Int) : WalkAt T z frm frm [] := fun L e h => by
  by_cases he : e = 0
  · rw [if_pos he]; exact h
  · rw [if_neg he]
    cases h with
    | done => exact absurd rfl he
    | err h1 h2 => exact .err h1 h2
    | far h1 h2 h3 => exact .far h1 h2 h3
    | step h1 h2 h3 h4 => have := WalkR.step h1 h2 h3 h4; rw [if_neg he] at this; exact this
theorem WalkAt.next {T : Int → Th × Int} {z frm a : Int} {acc : List Int} (h : WalkAt T z frm a acc) {B : Bool} (h1 : a < z) (h2 : (T a).2 = 0) (h3 : (T a).1.words ≤ z - a) (hB : (T a).1.is = B) :
    WalkAt T z frm (a + (T a).1.words) (if B then acc ++ [a] else acc) := fun L e hw => by
  have h4 := h _ _ (WalkR.step h1 h2 h3 hw)
  by_cases he : e = 0
  · rw [if_pos he] at h4 ⊢
    rw [if_pos he, hB] at h4
    cases B with
    | true => simpa using h4
    | false => exact h4
  · rw [if_neg he] at h4 ⊢
    exact h4
theorem OwnInts.keep {w w' : World} {base : Nat} {v : Value} {l : List Int} (h : OwnInts w base v l) (k : Keeps w w') : OwnInts w' base v l := h.touch k (fun _ _ h => h)
theorem BL.grown {w w' : World} {b : Nat} {ty : TypeId} {l : List Value} {row : Option Nat} (h : BL w b ty l) (hg : w.grownBy w' row) (hr : row ≠ some b) : BL w' b ty l :=
  Blk.of_heap h (hg.block b h.lt (fun e => hr e.symm))
theorem scope_loop {P : Program} {Q : Exit → Act → World → Prop} {a : Act} {w : World} {c X : Code} (l : Nat) (J : Act → World → Prop) (μ : Act → World → Nat) (hf : findLabel c l = some (.seq .skip X))
    (pass : ∀ a w, J a w → X.wp P (Exit.jump l (fun a' w' => J a' w' ∧ μ a' w' < μ a w) Q) a w)
    (first : (∀ a w, J a w → X.wp P (Exit.jump l J Q) a w) → c.wp P (Exit.jump l J Q) a w) : (Code.scope c).wp P Q a w := by
  refine wp_scope_jumps l J μ hf (first fun a w hJ => Code.wp_mono (fun e a' w' h => ?_) (pass a w hJ)) (fun a w hJ => wp_seq (wp_skip (pass a w hJ)))
  unfold Exit.jump at *
  cases e with
  | goto k => exact ⟨h.1, h.2.1⟩
  | _ => exact h
/-- What holds at the head of a round of Walk. -/
def WJ (w : World) (ba bw n : Nat) (f : Nat → Int) (bt : Nat) (A : Option Addr) (m cap : Nat) (C : Nat → Cl) (frm z a : Int) (acc : List Int) (v : Value) (wr : World) : Prop :=
  BL wr w.heap.size 34 [.pointer (some ⟨ba, 0, none⟩), .pointer (some ⟨bt, 0, none⟩)] ∧ OwnInts wr (w.heap.size + 1) v acc ∧ WalkAt (atT n f m C) z frm a acc ∧ Keeps w wr ∧ acc.length ≤ n ∧ (acc = [] ∨ (acc.length ≤ a ∧ a ≤ n))

set_option maxRecDepth 100000 in
set_option maxHeartbeats 2000000 in
theorem walk_any (ba bw n : Nat) (f : Nat → Int) (bt : Nat) (A : Option Addr) (m cap : Nat) (C : Nat → Cl) (w : World) (h : St w ba bw n f bt A m cap C) (frm z : Int) (hz : -9223372036854775808 ≤ z ∧ z ≤ 9223372036854775807) :
    Calls Try.prog 29 #[stV ba bt, .int .i64 frm, .int .i64 z] w fun e w' => ∃ v L x, e = .returned (.tuple #[v, .int .i64 x]) ∧ WalkR (atT n f m C) z frm L x ∧ OwnInts w' w.heap.size v L ∧ Keeps w w' := by
  have hSt := Lib.hid h
  have HAt := Lib.hid (fun w' (h : St w' ba bw n f bt A m cap C) a => at_any ba bw n f bt A m cap C w' h a)
  have HOk := Lib.hid (fun a (hh : (atT n f m C a).2 = 0) => at_ok h.tb.ok hh)
  have HI0 := Lib.hid (fun c ag fw mk fi dn r d k w {B : Bool} (hB : (c != 0) = B) => is_at c ag fw mk fi dn r d k w hB)
  have hle := h.ar.le
  obtain ⟨z1, z2⟩ := hz
  clear h
  unfold stV at *
  go_enter Try.func29, Try.ntmps29
  go_wp2_with fail
  refine scope_loop 0 (fun a' wr => ∃ (a : Int) (acc : List Int) (v : Value) (u10 u11 u12 u13 u14 u15 u16 u17 u18 u19 u20 u21 u22 u23 u24 u25 u26 u27 u28 u29 u30 u31 u32 u33 u34 u35 u36 u37 u38 u39 u40 u41 : Value), a' = { tmps := #[.agg #[.pointer (some ⟨ba, 0, none⟩), .pointer (some ⟨bt, 0, none⟩)], .int .i64 frm, .int .i64 z, .pointer (some ⟨w.heap.size, 0, none⟩), undef, undef, .slice none 0 0, .int .i64 0, v, .int .i64 a, u10, u11, u12, u13, u14, u15, u16, u17, u18, u19, u20, u21, u22, u23, u24, u25, u26, u27, u28, u29, u30, u31, u32, u33, u34, u35, u36, u37, u38, u39, u40, u41], defers := [] } ∧ WJ w ba bw n f bt A m cap C frm z a acc v wr) (fun a' _ => (z - intOf (a'.tmps.getD 9 undef)).toNat) rfl ?_ ?_
  ·
    rintro a' wr ⟨a, acc, v, u10, u11, u12, u13, u14, u15, u16, u17, u18, u19, u20, u21, u22, u23, u24, u25, u26, u27, u28, u29, u30, u31, u32, u33, u34, u35, u36, u37, u38, u39, u40, u41, rfl, hJ⟩
    obtain ⟨hS, hO, hA, hK, hl, hl2⟩ := hJ
    have HO := Lib.hid hO
    have HA := Lib.hid hA
    have hz0 := hK.size
    have hS0 := hS.lt
    clear hO hA
    have l1 := hS.lt
    have c2 : wr.cell? ⟨w.heap.size, 0, none⟩ = some (.pointer (some ⟨ba, 0, none⟩)) := hS.c 0 _ rfl
    have c3 : wr.cell? ⟨w.heap.size, 1, none⟩ = some (.pointer (some ⟨bt, 0, none⟩)) := hS.c 1 _ rfl
    by_cases hge : z ≤ a
    ·
      go_wp2_with fail
      simp only [Exit.jump]
      go_ret2
      exact ⟨v, acc, 0, rfl, by have := HA.out [] 0 (.done hge); simpa using this, HO.out.mono (by omega), hK⟩
    ·
      have hlt : a < z := by omega
      clear hge
      go_wp2_with fail
      refine Calls.mono (HAt.out _ (hSt.out.keep hK) a) ?_
      rintro e w4 ⟨rfl, kw4⟩
      have Kw4 := Keeps.trans hK kw4
      have Bw4_S := BL.keep hS kw4
      have zw4 := kw4.size
      clear l1 c2 c3 hS hK
      have l5 := Bw4_S.lt
      generalize hp : atT n f m C a = p
      obtain ⟨⟨⟨c, ag, fw, mk, fi, dn⟩, r, d, k⟩, x⟩ := p
      have HP := Lib.hid hp
      clear hp
      unfold thV
      dsimp only
      have HO1 := Lib.hid (HO.out.keep kw4)
      clear HO
      clear kw4
      by_cases hx : x = 0
      ·
        subst hx
        have hok := HOk.out a (by rw [HP.out])
        rw [HP.out] at hok
        obtain ⟨a1, k1, k2, r1, r2, d1, d2, _⟩ := hok
        dsimp only at k1 k2 r1 r2 d1 d2
        by_cases hfar : z - a < k
        ·
          go_wp2_with fail
          simp only [Exit.jump]
          go_ret2
          exact ⟨_, [], 12, rfl, by have := HA.out [] 12 (.far hlt (by rw [HP.out]) (by rw [HP.out]; exact hfar)); simpa using this, OwnInts.nil_ _ _, (Touch.alloc Kw4 _)⟩
        ·
          have hnf : ¬ (z - a < k) := hfar
          clear hfar
          have hl3 : (acc.length : Int) + 1 ≤ a + k ∧ a + k ≤ n := by
            rcases hl2 with h0 | ⟨h0, h1⟩
            · subst h0; simp; omega
            · omega
          have g0 : IntKind.i64.wrap (z - a) = z - a := IntWalk.i64_in _ ⟨by omega, by omega⟩
          have g1 : IntKind.i64.wrap (a + k) = a + k := IntWalk.i64_in _ ⟨by omega, by omega⟩
          have HNx := Lib.hid (fun (B : Bool) hB => HA.out.next (B := B) hlt (by rw [HP.out]) (by rw [HP.out]; show k ≤ z - a; omega) hB)
          rw [HP.out] at HNx
          dsimp only [Th.is] at HNx
          go_wp2_with fail
          refine named (fun W6 hW6 => ?_)
          have KW6 : Keeps w W6 := by rw [hW6]; exact (Kw4.alloc _)
          have BW6_S : BL W6 (w.heap.size) 34 [.pointer (some ⟨ba, 0, none⟩), .pointer (some ⟨bt, 0, none⟩)] := by rw [hW6]; exact (BL.alloc Bw4_S _)
          have BW6_T : BL W6 (w4.heap.size) 101 [.int .i64 c, .int .i64 ag, .int .i64 fw, .bool mk, .bool fi, .bool dn, .int .i64 r, .int .i64 d, .int .i64 k] := by rw [hW6]; exact (BL.new1 _ _ _ [.int .i64 c, .int .i64 ag, .int .i64 fw, .bool mk, .bool fi, .bool dn, .int .i64 r, .int .i64 d, .int .i64 k] _ (by simp) rfl)
          have kW6 : Keeps w4 W6 := by rw [hW6]; exact ((Touch.refl _ _).alloc _)
          have zW6 : w4.heap.size + 1 ≤ W6.heap.size := by rw [hW6]; simp
          clear l5 Bw4_S Kw4 hW6
          have l7 := BW6_S.lt
          have l8 := BW6_T.lt
          have HO2 := Lib.hid (HO1.out.keep (show Keeps w4 W6 from kW6))
          have HLo := Lib.hid HO1.out.lt
          clear HO1 kW6
          cases hc : (c != 0) with
          | false =>
            have HN := Lib.hid (HNx.out _ hc)
            refine Calls.mono (HI0.out _ _ _ _ _ _ _ _ _ _ hc) ?_
            rintro e w9 ⟨rfl, kw9⟩
            have Kw9 := Keeps.trans KW6 kw9
            have Bw9_S := BL.keep BW6_S kw9
            have Bw9_T := BL.keep BW6_T kw9
            have zw9 := kw9.size
            clear l7 l8 BW6_S BW6_T KW6
            have l10 := Bw9_S.lt
            have l11 := Bw9_T.lt
            have c12 : w9.cell? ⟨w4.heap.size, 8, none⟩ = some (.int .i64 k) := Bw9_T.c 8 _ rfl
            have HO3 := Lib.hid (HO2.out.keep kw9)
            clear HO2 kw9 HNx hc
            go_wp2_with fail
            go_step3
            refine ⟨rfl, ⟨a + k, acc, v, _, _, _, _, _, _, _, _, _, _, _, _, _, _, _, _, _, _, _, _, _, _, _, _, _, _, _, _, _, _, _, _, rfl, Bw9_S, HO3.out, HN.out, Kw9, hl, hl2.elim (fun h => .inl h) (fun h => .inr ⟨by omega, by omega⟩)⟩, ?_⟩
            simp [intOf]; omega
          | true =>
            have HN := Lib.hid (HNx.out _ hc)
            refine Calls.mono (HI0.out _ _ _ _ _ _ _ _ _ _ hc) ?_
            rintro e w13 ⟨rfl, kw13⟩
            have Kw13 := Keeps.trans KW6 kw13
            have Bw13_S := BL.keep BW6_S kw13
            have Bw13_T := BL.keep BW6_T kw13
            have zw13 := kw13.size
            clear l7 l8 BW6_S BW6_T KW6
            have l14 := Bw13_S.lt
            have l15 := Bw13_T.lt
            have c16 : w13.cell? ⟨w4.heap.size, 8, none⟩ = some (.int .i64 k) := Bw13_T.c 8 _ rfl
            have HO3 := Lib.hid (HO2.out.keep kw13)
            clear HO2 kw13 HNx hc
            go_wp2_with (at_builtin; refine app_int ?_ (.tmp 34) (.tmp 36) ?_ (w.heap.size + 1) v acc (HO3.out.alloc _) ?_ w13.heap.size a ?_ (cell_new _ _ _ _ rfl) (by omega) (by simp; omega) ?_; rfl; rfl; rfl; rfl; intro v' w' hown hgr hbl; have hlo := HO3.out.lt; have HOn := Lib.hid hown; have HKn := Lib.hid (Keeps.grown (Touch.alloc Kw13 (.cells #[.int .i64 a] 3)) hgr (fun k e => by have := (hlo k e).1; omega)); have hBS := BL.grown (BL.alloc Bw13_S (.cells #[.int .i64 a] 3)) hgr (fun e => by have := (hlo _ e).1; omega); have hBT := BL.grown (BL.alloc Bw13_T (.cells #[.int .i64 a] 3)) hgr (fun e => by have := (HLo.out _ e).2; omega); have cT := hBT.c 8 _ rfl; clear hgr hown hbl hlo HO3)
            go_step3
            refine ⟨rfl, ⟨a + k, acc ++ [a], v', _, _, _, _, _, _, _, _, _, _, _, _, _, _, _, _, _, _, _, _, _, _, _, _, _, _, _, _, _, _, _, _, rfl, hBS, HOn.out, HN.out, HKn.out, by have := hl3; simp; omega, .inr ⟨by have := hl3; simp; omega, by omega⟩⟩, ?_⟩
            simp [intOf]; omega
      ·
        have hxn : (x != 0) = true := by simpa using hx
        go_wp2_with fail
        simp only [Exit.jump]
        go_ret2
        exact ⟨_, [], x, rfl, by have := HA.out [] x (by have := WalkR.err (T := atT n f m C) hlt (by rw [HP.out]; exact hx); rw [HP.out] at this; exact this); simpa [hx] using this, OwnInts.nil_ _ _, (Touch.alloc Kw4 _)⟩
  ·
    intro H
    have HH := Lib.hid H
    clear H
    go_wp2_with fail
    go_step3
    simp only [Exit.then]
    refine (‹∀ (a : Act) (w : World), Code.wp _ _ _ a w → _› _ _ ?_)
    exact HH.out _ _ ⟨frm, [], _, _, _, _, _, _, _, _, _, _, _, _, _, _, _, _, _, _, _, _, _, _, _, _, _, _, _, _, _, _, _, _, _, rfl, BL.new _ _ _, OwnInts.nil_ _ _, WalkAt.start _ _ _, (Touch.refl _ w).alloc _, by simp⟩

end Go.Proofs.Ytabfbgkablbeeaa
