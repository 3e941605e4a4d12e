/- Layer 6, object: Walk. -/
import Derived.Test.YtkjgfblkbjlohaaGreatG11
import Derived.Test.YtkjgfblkbjlohaaGreatG02
import Derived.Test.YtkjgfblkbjlohaaGreatG17
import Derived.ScopeJumps
set_option linter.all false

namespace Go.Proofs.YtkjgfblkbjlohaaGreat
open Go.RowKit

/-- What is walked through. -/
inductive WalkR (T : Int → Th × Int) (z : Int) : Int → List Int → Int → Prop
  | done {a : Int} : z ≤ a → WalkR T z a [] 0
  | err {a : Int} : a < z → (T a).2 ≠ 0 → WalkR T z a [] (T a).2
  | far {a : Int} : a < z → (T a).2 = 0 → z - a < (T a).1.words → WalkR T z a [] 12
  | step {a : Int} {L : List Int} {e : Int} : a < z → (T a).2 = 0 → (T a).1.words ≤ z - a → WalkR T z (a + (T a).1.words) L e →
      WalkR T z a (if e = 0 then (if (T a).1.is then a :: L else L) else []) e
def WalkAt (T : Int → Th × Int) (z frm a : Int) (acc : List Int) : Prop := ∀ L e, WalkR T z a L e → WalkR T z frm (if e = 0 then acc ++ L else []) e
theorem WalkAt.start (T : Int → Th × Int) (z frm : Int) : WalkAt T z frm frm [] := fun L e h => by
  by_cases he : e = 0
  · rw [if_pos he]; exact h
  · rw [if_neg he]
    cases h with
    | done => exact absurd rfl he
    | err h1 h2 => exact .err h1 h2
    | far h1 h2 h3 => exact .far h1 h2 h3
    | step h1 h2 h3 h4 => have := WalkR.step h1 h2 h3 h4; rw [if_neg he] at this; exact this
theorem WalkAt.next {T : Int → Th × Int} {z frm a : Int} {acc : List Int} (h : WalkAt T z frm a acc) {B : Bool} (h1 : a < z) (h2 : (T a).2 = 0) (h3 : (T a).1.words ≤ z - a) (hB : (T a).1.is = B) :
    WalkAt T z frm (a + (T a).1.words) (if B then acc ++ [a] else acc) := fun L e hw => by
  have h4 := h _ _ (WalkR.step h1 h2 h3 hw)
  by_cases he : e = 0
  · rw [if_pos he] at h4 ⊢
    rw [if_pos he, hB] at h4
    cases B with
    | true => simpa using h4
    | false => exact h4
  · rw [if_neg he] at h4 ⊢
    exact h4
theorem OwnInts.keep {w w' : World} {base : Nat} {v : Value} {l : List Int} (h : OwnInts w base v l) (k : Keeps w w') : OwnInts w' base v l := h.touch k (fun _ _ h => h)
theorem BL.grown {w w' : World} {b : Nat} {ty : TypeId} {l : List Value} {row : Option Nat} (h : BL w b ty l) (hg : w.grownBy w' row) (hr : row ≠ some b) : BL w' b ty l :=
  Blk.of_heap h (hg.block b h.lt (fun e => hr e.symm))
theorem scope_loop {P : Program} {Q : Exit → Act → World → Prop} {a : Act} {w : World} {c X : Code} (l : Nat) (J : Act → World → Prop) (μ : Act → World → Nat) (hf : findLabel c l = some (.seq .skip X))
    (pass : ∀ a w, J a w → X.wp P (Exit.jump l (fun a' w' => J a' w' ∧ μ a' w' < μ a w) Q) a w)
    (first : (∀ a w, J a w → X.wp P (Exit.jump l J Q) a w) → c.wp P (Exit.jump l J Q) a w) : (Code.scope c).wp P Q a w := by
  refine wp_scope_jumps l J μ hf (first fun a w hJ => Code.wp_mono (fun e a' w' h => ?_) (pass a w hJ)) (fun a w hJ => wp_seq (wp_skip (pass a w hJ)))
  unfold Exit.jump at *
  cases e with
  | goto k => exact ⟨h.1, h.2.1⟩
  | _ => exact h
/-- What holds at the head of a round of Walk. -/
def WJ (w : World) (ba bw n : Nat) (f : Nat → Int) (bt : Nat) (A : Option Addr) (m cap : Nat) (C : Nat → Cl) (frm z a : Int) (acc : List Int) (v : Value) (wr : World) : Prop :=
  BL wr w.heap.size 32 [.pointer (some ⟨ba, 0, none⟩), .pointer (some ⟨bt, 0, none⟩)] ∧ OwnInts wr (w.heap.size + 1) v acc ∧ WalkAt (atT n f m C) z frm a acc ∧ Keeps w wr ∧ acc.length ≤ n ∧ (acc = [] ∨ (acc.length ≤ a ∧ a ≤ n))

set_option maxRecDepth 100000 in
set_option maxHeartbeats 2000000 in
theorem walk_any (ba bw n : Nat) (f : Nat → Int) (bt : Nat) (A : Option Addr) (m cap : Nat) (C : Nat → Cl) (w : World) (h : St w ba bw n f bt A m cap C) (frm z : Int) (hz : -9223372036854775808 ≤ z ∧ z ≤ 9223372036854775807) :
    Calls Tryz.prog 92 #[stV ba bt, .int .i64 frm, .int .i64 z] w fun e w' => ∃ v L x, e = .returned (.tuple #[v, .int .i64 x]) ∧ WalkR (atT n f m C) z frm L x ∧ OwnInts w' w.heap.size v L ∧ Keeps w w' := by
  have hSt := Lib.hid h
  have HAt := Lib.hid (fun w' (h : St w' ba bw n f bt A m cap C) a => at_any ba bw n f bt A m cap C w' h a)
  have HOk := Lib.hid (fun a (hh : (atT n f m C a).2 = 0) => at_ok h.tb.ok hh)
  have HI0 := Lib.hid (fun c ag fw mk fi dn r d k w {B : Bool} (hB : (c != 0) = B) => is_at c ag fw mk fi dn r d k w hB)
  have hle := h.ar.le
  obtain ⟨z1, z2⟩ := hz
  clear h
  unfold stV at *
  go_enter Tryz.func92, Tryz.ntmps92
  go_wp2_with fail
  refine scope_loop 0 (fun a' wr => ∃ (a : Int) (acc : List Int) (v : Value) (u10 u11 u12 u13 u14 u15 u16 u17 u18 u19 u20 u21 u22 u23 u24 u25 u26 u27 u28 u29 u30 u31 u32 u33 u34 u35 u36 u37 u38 u39 u40 u41 : Value), a' = { tmps := #[.agg #[.pointer (some ⟨ba, 0, none⟩), .pointer (some ⟨bt, 0, none⟩)], .int .i64 frm, .int .i64 z, .pointer (some ⟨w.heap.size, 0, none⟩), undef, undef, .slice none 0 0, .int .i64 0, v, .int .i64 a, u10, u11, u12, u13, u14, u15, u16, u17, u18, u19, u20, u21, u22, u23, u24, u25, u26, u27, u28, u29, u30, u31, u32, u33, u34, u35, u36, u37, u38, u39, u40, u41], defers := [] } ∧ WJ w ba bw n f bt A m cap C frm z a acc v wr) (fun a' _ => (z - intOf (a'.tmps.getD 9 undef)).toNat) rfl ?_ ?_
  ·
    rintro a' wr ⟨a, acc, v, u10, u11, u12, u13, u14, u15, u16, u17, u18, u19, u20, u21, u22, u23, u24, u25, u26, u27, u28, u29, u30, u31, u32, u33, u34, u35, u36, u37, u38, u39, u40, u41, rfl, hJ⟩
    obtain ⟨hS, hO, hA, hK, hl, hl2⟩ := hJ
    have HO := Lib.hid hO
    have HA := Lib.hid hA
    have hz0 := hK.size
    have hS0 := hS.lt
    clear hO hA
    have l1 := hS.lt
    have c2 : wr.cell? ⟨w.heap.size, 0, none⟩ = some (.pointer (some ⟨ba, 0, none⟩)) := hS.c 0 _ rfl
    have c3 : wr.cell? ⟨w.heap.size, 1, none⟩ = some (.pointer (some ⟨bt, 0, none⟩)) := hS.c 1 _ rfl
    by_cases hge : z ≤ a
    ·
      go_wp2_with fail
      simp only [Exit.jump]
      go_ret2
      exact ⟨v, acc, 0, rfl, by have := HA.out [] 0 (.done hge); simpa using this, HO.out.mono (by omega), hK⟩
    ·
      have hlt : a < z := by omega
      clear hge
      go_wp2_with fail
      refine Calls.mono (HAt.out _ (hSt.out.keep hK) a) ?_
      rintro e w4 ⟨rfl, kw4⟩
      have Kw4 := Keeps.trans hK kw4
      have Bw4_S := BL.keep hS kw4
      have zw4 := kw4.size
      clear l1 c2 c3 hS hK
      have l5 := Bw4_S.lt
      generalize hp : atT n f m C a = p
      obtain ⟨⟨⟨c, ag, fw, mk, fi, dn⟩, r, d, k⟩, x⟩ := p
      have HP := Lib.hid hp
      clear hp
      unfold thV
      dsimp only
      have HO1 := Lib.hid (HO.out.keep kw4)
      clear HO
      clear kw4
      by_cases hx : x = 0
      ·
        subst hx
        have hok := HOk.out a (by rw [HP.out])
        rw [HP.out] at hok
        obtain ⟨a1, k1, k2, r1, r2, d1, d2, _⟩ := hok
        dsimp only at k1 k2 r1 r2 d1 d2
        by_cases hfar : z - a < k
        ·
          go_wp2_with fail
          simp only [Exit.jump]
          go_ret2
          exact ⟨_, [], 12, rfl, by have := HA.out [] 12 (.far hlt (by rw [HP.out]) (by rw [HP.out]; exact hfar)); simpa using this, OwnInts.nil_ _ _, (Touch.alloc Kw4 _)⟩
        ·
          have hnf : ¬ (z - a < k) := hfar
          clear hfar
          have hl3 : (acc.length : Int) + 1 ≤ a + k ∧ a + k ≤ n := by
            rcases hl2 with h0 | ⟨h0, h1⟩
            · subst h0; simp; omega
            · omega
          have g0 : IntKind.i64.wrap (z - a) = z - a := IntWalk.i64_in _ ⟨by omega, by omega⟩
          have g1 : IntKind.i64.wrap (a + k) = a + k := IntWalk.i64_in _ ⟨by omega, by omega⟩
          have HNx := Lib.hid (fun (B : Bool) hB => HA.out.next (B := B) hlt (by rw [HP.out]) (by rw [HP.out]; show k ≤ z - a; omega) hB)
          rw [HP.out] at HNx
          dsimp only [Th.is] at HNx
          go_wp2_with fail
          refine named (fun W6 hW6 => ?_)
          have KW6 : Keeps w W6 := by rw [hW6]; exact (Kw4.alloc _)
          have BW6_S : BL W6 (w.heap.size) 32 [.pointer (some ⟨ba, 0, none⟩), .pointer (some ⟨bt, 0, none⟩)] := by rw [hW6]; exact (BL.alloc Bw4_S _)
          have BW6_T : BL W6 (w4.heap.size) 128 [.int .i64 c, .int .i64 ag, .int .i64 fw, .bool mk, .bool fi, .bool dn, .int .i64 r, .int .i64 d, .int .i64 k] := by rw [hW6]; exact (BL.new1 _ _ _ [.int .i64 c, .int .i64 ag, .int .i64 fw, .bool mk, .bool fi, .bool dn, .int .i64 r, .int .i64 d, .int .i64 k] _ (by simp) rfl)
          have kW6 : Keeps w4 W6 := by rw [hW6]; exact ((Touch.refl _ _).alloc _)
          have zW6 : w4.heap.size + 1 ≤ W6.heap.size := by rw [hW6]; simp
          clear l5 Bw4_S Kw4 hW6
          have l7 := BW6_S.lt
          have l8 := BW6_T.lt
          have HO2 := Lib.hid (HO1.out.keep (show Keeps w4 W6 from kW6))
          have HLo := Lib.hid HO1.out.lt
          clear HO1 kW6
          cases hc : (c != 0) with
          | false =>
            have HN := Lib.hid (HNx.out _ hc)
            refine Calls.mono (HI0.out _ _ _ _ _ _ _ _ _ _ hc) ?_
            rintro e w9 ⟨rfl, kw9⟩
            have Kw9 := Keeps.trans KW6 kw9
            have Bw9_S := BL.keep BW6_S kw9
            have Bw9_T := BL.keep BW6_T kw9
            have zw9 := kw9.size
            clear l7 l8 BW6_S BW6_T KW6
            have l10 := Bw9_S.lt
            have l11 := Bw9_T.lt
            have c12 : w9.cell? ⟨w4.heap.size, 8, none⟩ = some (.int .i64 k) := Bw9_T.c 8 _ rfl
            have HO3 := Lib.hid (HO2.out.keep kw9)
            clear HO2 kw9 HNx hc
            go_wp2_with fail
            go_step3
            refine ⟨rfl, ⟨a + k, acc, v, _, _, _, _, _, _, _, _, _, _, _, _, _, _, _, _, _, _, _, _, _, _, _, _, _, _, _, _, _, _, _, _, rfl, Bw9_S, HO3.out, HN.out, Kw9, hl, hl2.elim (fun h => .inl h) (fun h => .inr ⟨by omega, by omega⟩)⟩, ?_⟩
            simp [intOf]; omega
          | true =>
            have HN := Lib.hid (HNx.out _ hc)
            refine Calls.mono (HI0.out _ _ _ _ _ _ _ _ _ _ hc) ?_
            rintro e w13 ⟨rfl, kw13⟩
            have Kw13 := Keeps.trans KW6 kw13
            have Bw13_S := BL.keep BW6_S kw13
            have Bw13_T := BL.keep BW6_T kw13
            have zw13 := kw13.size
            clear l7 l8 BW6_S BW6_T KW6
            have l14 := Bw13_S.lt
            have l15 := Bw13_T.lt
            have c16 : w13.cell? ⟨w4.heap.size, 8, none⟩ = some (.int .i64 k) := Bw13_T.c 8 _ rfl
            have HO3 := Lib.hid (HO2.out.keep kw13)
            clear HO2 kw13 HNx hc
            go_wp2_with (at_builtin; refine app_int ?_ (.tmp 34) (.tmp 36) ?_ (w.heap.size + 1) v acc (HO3.out.alloc _) ?_ w13.heap.size a ?_ (cell_new _ _ _ _ rfl) (by omega) (by simp; omega) ?_; rfl; rfl; rfl; rfl; intro v' w' hown hgr hbl; have hlo := HO3.out.lt; have HOn := Lib.hid hown; have HKn := Lib.hid (Keeps.grown (Touch.alloc Kw13 (.cells #[.int .i64 a] 3)) hgr (fun k e => by have := (hlo k e).1; omega)); have hBS := BL.grown (BL.alloc Bw13_S (.cells #[.int .i64 a] 3)) hgr (fun e => by have := (hlo _ e).1; omega); have hBT := BL.grown (BL.alloc Bw13_T (.cells #[.int .i64 a] 3)) hgr (fun e => by have := (HLo.out _ e).2; omega); have cT := hBT.c 8 _ rfl; clear hgr hown hbl hlo HO3)
            go_step3
            refine ⟨rfl, ⟨a + k, acc ++ [a], v', _, _, _, _, _, _, _, _, _, _, _, _, _, _, _, _, _, _, _, _, _, _, _, _, _, _, _, _, _, _, _, _, rfl, hBS, HOn.out, HN.out, HKn.out, by have := hl3; simp; omega, .inr ⟨by have := hl3; simp; omega, by omega⟩⟩, ?_⟩
            simp [intOf]; omega
      ·
        have hxn : (x != 0) = true := by simpa using hx
        go_wp2_with fail
        simp only [Exit.jump]
        go_ret2
        exact ⟨_, [], x, rfl, by have := HA.out [] x (by have := WalkR.err (T := atT n f m C) hlt (by rw [HP.out]; exact hx); rw [HP.out] at this; exact this); simpa [hx] using this, OwnInts.nil_ _ _, (Touch.alloc Kw4 _)⟩
  ·
    intro H
    have HH := Lib.hid H
    clear H
    go_wp2_with fail
    go_step3
    simp only [Exit.then]
    refine (‹∀ (a : Act) (w : World), Code.wp _ _ _ a w → _› _ _ ?_)
    exact HH.out _ _ ⟨frm, [], _, _, _, _, _, _, _, _, _, _, _, _, _, _, _, _, _, _, _, _, _, _, _, _, _, _, _, _, _, _, _, _, _, rfl, BL.new _ _ _, OwnInts.nil_ _ _, WalkAt.start _ _ _, (Touch.refl _ w).alloc _, by simp⟩

end Go.Proofs.YtkjgfblkbjlohaaGreat
