/- Layer 16, slide: a run's plan. -/
import Derived.Test.YtkjgfblkbjlohaaGreatG19
import Derived.Test.YtkjgfblkbjlohaaGreatG15
import Derived.Test.YtkjgfblkbjlohaaGreatG17
set_option linter.all false

namespace Go.Proofs.YtkjgfblkbjlohaaGreat
open Go.RowKit

theorem cell_only {w w' : World} {p : Addr} {v : Value} {b : Nat} (h : w.cell? p = some v) (k : Only b w w') (hb : p.block ≠ b) : w'.cell? p = some v := by
  rw [← h]
  exact World.cell?_of_block (k.block _ (block_lt_of_cell h) (fun h => hb h))
theorem Only.grown {b : Nat} {w0 w w' : World} {row : Option Nat} (h : Only b w0 w) (hg : w.grownBy w' row) (hr : ∀ k, row = some k → w0.heap.size ≤ k) : Only b w0 w' :=
  Touch.grown h hg (fun k e hlt => by have := hr k e; omega)
theorem Only.alloc_ {b : Nat} {w0 w : World} (h : Only b w0 w) (o : Obj) : Only b w0 (w.alloc o) := Touch.alloc h o
theorem NowR.lower {T : TypeId} {w : World} {ad : Option Addr} {n base base' top : Nat} {now : Nat → Sp} (h : NowR T w ad n base top now) (hb : base' ≤ base) : NowR T w ad n base' top now := by
  intro hn
  obtain ⟨g, cap, f, h0, h1, h2, h3⟩ := h hn
  exact ⟨g, cap, f, h0, by omega, h2, h3⟩
theorem make_mapi (w : World) : (Instr.makeMap 83 none).run Tryz.prog w = .ok (.map (some w.heap.size)) (w.alloc (.map #[] 0)) := run_makeMap _ w

/-- Where all goes: 0 to 0, the i-th of S to the i-th of out. -/
def planM (S : Nat → Int) (out : List Int) : Nat → Int → Option Int
  | 0 => putM (fun _ => none) 0 0
  | i + 1 => putM (planM S out i) (S i) (out.getD i 0)
def zOf (T : Int → Th × Int) (S : Nat → Int) : Nat → Int := fun i => (T (S i)).1.words
def zsOf (Z : Nat → Int) (m : Nat) : List Int := (List.range m).map Z
theorem zsOf_succ (Z : Nat → Int) (m : Nat) : zsOf Z (m + 1) = zsOf Z m ++ [Z m] := by unfold zsOf; rw [List.range_succ, List.map_append]; rfl
theorem zsOf_len (Z : Nat → Int) (m : Nat) : (zsOf Z m).length = m := by simp [zsOf]
theorem zsOf_get (Z : Nat → Int) (m j : Nat) (h : j < m) : (zsOf Z m).getD j 0 = Z j := by
  unfold zsOf; rw [List.getD_eq_getElem?_getD, List.getElem?_map, List.getElem?_range h]; rfl
theorem Well.out_bd {L : Nat → Sp} {n : Nat} {Z : Nat → Int} {m : Nat} (W : Well L n Z m) {i : Nat} (hi : i < m) : 0 ≤ (sts L n Z m).out.getD i 0 ∧ (sts L n Z m).out.getD i 0 + Z i ≤ 4096 := by
  obtain ⟨h1, h2, h3⟩ := W.lies hi
  have := W.bd (i := m) (Nat.le_refl _) h1
  omega

def PlanYes (T : Int → Th × Int) (L : Nat → Sp) (q m : Nat) (S : Nat → Int) (rb ba bt : Nat) (stay : Value) (w : World) (e : Ending) (w' : World) : Prop :=
  ∃ G X sz mb cnt ad cp, e = .returned (.tuple #[.slice ad q cp, .int .i64 0]) ∧ Walked T L q G X ∧ (∀ i, i < m → X (S i) = true) ∧ Well L q (zOf T S) m ∧
    OwnInts w' w.heap.size sz (zsOf (zOf T S) m) ∧ BL w' rb 85 (runL ba bt mb stay sz) ∧ MapIs w' mb (planM S (sts L q (zOf T S) m).out m) cnt ∧ w.heap.size ≤ mb ∧
    NowR 56 w' ad q w.heap.size w'.heap.size (sts L q (zOf T S) m).now ∧ Only rb w w'
def PlanNo (T : Int → Th × Int) (L : Nat → Sp) (q m : Nat) (S : Nat → Int) (rb : Nat) (w : World) (e : Ending) (w' : World) : Prop :=
  ∃ x, e = .returned (.tuple #[.slice none 0 0, .int .i64 x]) ∧ x ≠ 0 ∧ Only rb w w' ∧
    ((x = 12 ∧ ∃ j, j < q ∧ ∃ y, y ≠ 0 ∧ WalkR T (L j).t (L j).f [] y) ∨ (x = 12 ∧ ∃ G X, Walked T L q G X ∧ ∃ i, i < m ∧ X (S i) = false) ∨
      (∃ G X, Walked T L q G X ∧ (∀ i, i < m → X (S i) = true) ∧ ∃ out k now, PlanIs L q (zOf T S) m out k now x))
def PlanOut (T : Int → Th × Int) (L : Nat → Sp) (q m : Nat) (S : Nat → Int) (rb ba bt : Nat) (stay : Value) (w : World) (e : Ending) (w' : World) : Prop :=
  PlanYes T L q m S rb ba bt stay w e w' ∨ PlanNo T L q m S rb w e w'

set_option maxRecDepth 100000 in
set_option maxHeartbeats 2000000 in
theorem rplan_any (ba bw n : Nat) (f : Nat → Int) (bt : Nat) (A : Option Addr) (m cap : Nat) (C : Nat → Cl) (w0 w : World) (h : St w0 ba bw n f bt A m cap C) (rb : Nat) (K0 : Keeps w0 w) (hrb : w0.heap.size ≤ rb)
    (Sd : Option Addr) (mm sc : Nat) (S : Nat → Int) (hR : BL w rb 85 (runV ba bt (.slice Sd mm sc) (.slice none 0 0) (.map none))) (hS : Rd w0 Sd mm (intF .i64 S)) (hSi : ∀ i, i < mm → I64 (S i)) (hmm : mm ≤ 1000)
    (D : Option Addr) (q qc : Nat) (L : Nat → Sp) (hL : Rd w0 D (q * 3) (spF L)) (hI : ∀ i, i < q → InI (L i).t) (hq : q ≤ 20) :
    Calls Tryz.prog 32 #[.pointer (some ⟨rb, 0, none⟩), .slice D q qc] w (PlanOut (atT n f m C) L q mm S rb ba bt (.slice Sd mm sc) w) := by
  have HW := rwalks_any ba bw n f bt A m cap C w (h.keep K0) rb _ _ _ hR D q qc L (hL.keep K0) hI hq
  have HSi := Lib.hid hSi
  have HSt := Lib.hid (show ∀ w', Keeps w0 w' → St w' ba bw n f bt A m cap C from fun w' k => h.keep k)
  have HSz := Lib.hid (show ∀ w', Keeps w0 w' → ∀ i, Calls Tryz.prog 72 #[stV ba bt, .int .i64 (S i)] w' fun e w2 => (∃ b x, e = .returned (.tuple #[.int .i64 (zOf (atT n f m C) S i), .bool b, .int .i64 x])) ∧ Keeps w' w2 from
    fun w' k i => (size_any ba bw n f bt A m cap C w' (h.keep k) (S i)).mono (fun _ _ hh => ⟨⟨_, _, hh.1⟩, hh.2⟩))
  have HP := Lib.hid (show ∀ w', Keeps w0 w' → ∀ B mc (hz : Rd w' B mm (intF .i64 (zOf (atT n f m C) S))), Calls Tryz.prog 24 #[.slice D q qc, .slice B mm mc] w' (Planned 56 L q (zOf (atT n f m C) S) mm w') from
    fun w' k B mc hz => (plan_any D q qc L B mm mc _ w' (hL.keep k) (by omega) hz (by omega)).mono (fun _ _ hh => hh))
  clear h hSi hL hI
  unfold runV at hR
  have hrw := hR.lt
  unfold stV at *
  go_enter Tryz.func32, Tryz.ntmps32
  go_wp2_with fail
  refine Calls.mono HW ?_
  clear HW
  generalize hTT : atT n f m C = T at *
  clear hTT
  unfold PlanOut
  rintro e w1 (⟨mb, X, c, cnt, G, rfl, hG, hX, hmb, k1⟩ | ⟨rfl, hE, k1⟩)
  · have HG := Lib.hid hG
    have HE : ∃ Z, Z = zOf T S := ⟨_, rfl⟩
    have hR1 := BL.keep hR k1
    have z1 := k1.size
    have c3 := hR1.c 3 _ rfl
    clear hG hR
    go_wp2_with fail
    go_loopw [31] (fun i wr => ∃ (j : Nat) (sz : Value), j ≤ mm ∧ i = .int .i64 j ∧ BL wr rb 85 [.pointer (some ⟨ba, 0, none⟩), .pointer (some ⟨ba, 0, none⟩), .pointer (some ⟨bt, 0, none⟩), .slice Sd mm sc, sz, .map none] ∧ OwnInts wr w1.heap.size sz (zsOf (zOf T S) j) ∧ Only rb w1 wr ∧ ∀ p, p < j → X (S p) = true) (fun i _ => mm - (intOf i).toNat)
    case atStart => exact ⟨0, _, by omega, rfl, hR1, OwnInts.nil_ _ _, Only.refl _ _, fun p hp => by omega⟩
    case round =>
      obtain ⟨wo, rfl⟩ : ∃ wo : World, wo = wr := ⟨_, rfl⟩
      obtain ⟨j, sz, hj, rfl, hR2, hZ, hO, hall⟩ := hrel
      have HA := Lib.hid hall
      clear hall c3 hR1
      have zo := hO.size
      have Ko : Keeps w0 wo := (Keeps.trans K0 k1).new hO hrb
      have Oo : Only rb w wo := Only.trans_ k1.only hO
      by_cases hlt : j < mm
      · obtain ⟨b, off, rfl, d0⟩ := (hS.keep Ko).one hlt
        have d1 : wo.cell? ⟨b, off + j, none⟩ = some (.int .i64 (S j)) := d0
        have hX2 := hX.touch hO (by omega)
        have hlook := hX2.look (HSi.out j hlt)
        have e1 := hR2.c 1 _ rfl
        have e2 := hR2.c 2 _ rfl
        have e4 := hR2.c 4 _ rfl
        clear d0
        cases hx : X (S j) with
        | false =>
          rw [hx] at hlook
          have Hx := Lib.hid hx
          clear hx
          go_wp2_with fail
          go_returns
          exact .inr ⟨12, rfl, by decide, Oo, .inr (.inl ⟨rfl, G, X, HG.out, j, hlt, Hx.out⟩)⟩
        | true =>
          rw [hx] at hlook
          have Hx := Lib.hid hx
          clear hx
          go_wp2_with fail
          refine Calls.mono (HSz.out _ Ko j) ?_
          rintro e w2 ⟨⟨b2, x2, rfl⟩, k2⟩
          have hR3 := BL.keep hR2 k2
          have hZ3 := hZ.touch k2 (fun _ _ h => h)
          have z2 := k2.size
          have e4 := hR3.c 4 _ rfl
          have HlZ := Lib.hid (zsOf_len (zOf T S) j)
          have HZs := Lib.hid (zsOf_succ (zOf T S) j)
          clear e1 e2 hX2 hlook hR2 hZ
          generalize hy : zOf T S j = y at *
          have HY := Lib.hid hy
          clear hy
          go_wp2_with (at_builtin; refine app_int ?_ (.tmp 53) (.tmp 55) ?_ w1.heap.size sz (zsOf (zOf T S) j) (hZ3.alloc _) ?_ w2.heap.size y ?_ (cell_new _ _ _ _ rfl) (by rw [HlZ.out]; omega) (by simp; omega) ?_; rfl; rfl; rfl; rfl; intro v' w' hown hgr hbl; obtain ⟨ad', cp', hv⟩ := hown.form; simp only [List.length_append, List.length_cons, List.length_nil, Nat.zero_add, HlZ.out] at hv; subst hv; have hlo := hZ3.lt; have HO4 : Only rb w w' := Only.grown (Only.alloc_ (Only.trans_ Oo k2.only) (.cells #[.int .i64 y] 3)) hgr (fun k e => by have := (hlo k e).1; omega); have HO5 : Only rb w1 w' := Only.grown (Only.alloc_ (Only.trans_ hO k2.only) (.cells #[.int .i64 y] 3)) hgr (fun k e => by have := (hlo k e).1; omega); have hB4 := BL.grown (BL.alloc hR3 (.cells #[.int .i64 y] 3)) hgr (fun e => by have := (hlo _ e).1; omega); have cf := hB4.fz 4; have ce := hB4.c 4 _ rfl; clear hgr hbl hlo hZ3 hR3)
          go_roundw
          case rel =>
            have hl' := hown.lt
            exact ⟨j + 1, _, by omega, by go_num, hB4.set 4 _, by rw [HZs.out]; exact hown.touch (Touch.set (Only.refl rb w') 4 _) (fun k e h => by have := (hl' k e).1; omega), HO5.set 4 _, fun p hp => by
              rcases (by omega : p < j ∨ p = j) with h | rfl
              · exact HA.out p h
              · exact Hx.out⟩
          case measure => simp [intOf]; omega
      · obtain rfl : j = mm := by omega
        obtain ⟨ad, cp, hv⟩ := hZ.form
        rw [zsOf_len] at hv
        subst hv
        have hZl := zsOf_len (zOf T S) j
        have hrd : Rd wo ad j (intF .i64 (zOf T S)) := by
          have hh := hZ
          have : OwnInts wo w1.heap.size (.slice ad (zsOf (zOf T S) j).length cp) (zsOf (zOf T S) j) := by rw [hZl]; exact hh
          have := this.rd.1
          rw [hZl] at this
          exact this.congr (fun i hi => by show Value.int _ ((zsOf (zOf T S) j).getD i 0) = Value.int _ (zOf T S i); rw [zsOf_get _ _ _ hi])
        have e4 := hR2.c 4 _ rfl
        clear hZl
        go_wp2_with fail
        refine Calls.mono (HP.out _ Ko _ _ hrd) ?_
        rintro e w2 ⟨v1, ad1, cp1, out, k, now, err, rfl, hPl, hOut, hNow, k2⟩
        have hR3 := BL.keep hR2 k2
        have hZ3 := hZ.touch k2 (fun _ _ h => h)
        have z2 := k2.size
        have O2 : Only rb w w2 := Only.trans_ Oo k2.only
        clear hR2 hZ e4 hrd
        by_cases herr : err = 0
        · obtain ⟨rfl, rfl, rfl, rfl, hrise, hst⟩ : err = 0 ∧ out = (sts L q (zOf T S) j).out ∧ k = q ∧ now = (sts L q (zOf T S) j).now ∧ (Rise L q ∧ ∀ i, i < j → 1 ≤ zOf T S i) ∧ ∀ i, i < j → ¬ Stuck L q (zOf T S) i := by
            rcases hPl with h | h | h
            · omega
            · omega
            · exact h
          have HWl := Lib.hid (show Well L k (zOf T S) j from ⟨hrise.1, hrise.2, hst⟩)
          have hbd := Lib.hid (fun i hi => HWl.out.out_bd (i := i) hi)
          have hol := sts_out (L := L) (n := k) (Z := zOf T S) j
          have hbig := HWl.out.big
          have HNx := Lib.hid hNow
          clear hNow hPl hrise hst herr
          generalize hn : (sts L k (zOf T S) j).now = now at *
          have HN := Lib.hid hn
          clear hn
          generalize ho : (sts L k (zOf T S) j).out = out at *
          have HO := Lib.hid ho
          clear ho
          obtain ⟨ad2, cp2, hv⟩ := hOut.form
          rw [hol] at hv
          subst hv
          have hOr : Rd w2 ad2 j (intF .i64 fun i => out.getD i 0) := by
            have hh := hOut
            have : OwnInts w2 wo.heap.size (.slice ad2 out.length cp2) out := by rw [hol]; exact hh
            have := this.rd.1
            rw [hol] at this
            exact this
          have hOb : ∀ b off, ad2 = some ⟨b, off, none⟩ → wo.heap.size ≤ b ∧ b < w2.heap.size := by
            have hh := hOut
            have : OwnInts w2 wo.heap.size (.slice ad2 out.length cp2) out := by rw [hol]; exact hh
            exact this.rd.2
          have hmk := make_mapi w2
          obtain ⟨w3, hput0, hM3, hO3⟩ := (MapIs.made w2).put (x := 0) (v := 0) ⟨by omega, by omega⟩ ⟨by omega, by omega⟩ (by omega)
          have hR4 := (BL.alloc hR3 (.map #[] 0)).touch hO3 (by have := hR3.lt; omega)
          have z3 := hO3.size
          have hlz := hZ3.lt
          have hr3 := hR3.lt
          simp only [World.size_alloc] at z3
          have f5 := hR4.fz 5
          have e3 := hR4.c 3 _ rfl
          have e5 := hR4.c 5 _ rfl
          clear hR3 hOut
          go_wp2_with fail
          refine named_code (fun W4 hW4 => ?_)
          have O4 : Only rb w2 W4 := by rw [hW4]; exact Touch.set (Touch.trans (Only.alloc_ (Only.refl rb w2) (.map #[] 0)) hO3 (fun x hx hlt => by omega)) 5 _
          have hR5 : BL W4 rb 85 [.pointer (some ⟨ba, 0, none⟩), .pointer (some ⟨ba, 0, none⟩), .pointer (some ⟨bt, 0, none⟩), .slice Sd j sc, .slice ad j cp, .map (some w2.heap.size)] := by rw [hW4]; exact hR4.set 5 _
          have hM4 : MapIs W4 w2.heap.size (planM S out 0) 1 := by rw [hW4]; exact hM3.touch (Touch.set (Only.refl rb w3) 5 _) (by omega)
          clear hR4 hM3 hO3 hput0 hmk hW4 f5 e3 e5
          have zW := O4.size
          go_loopw [83] (fun i wr => ∃ p : Nat, p ≤ j ∧ i = .int .i64 p ∧ BL wr rb 85 [.pointer (some ⟨ba, 0, none⟩), .pointer (some ⟨ba, 0, none⟩), .pointer (some ⟨bt, 0, none⟩), .slice Sd j sc, .slice ad j cp, .map (some w2.heap.size)] ∧ MapIs wr w2.heap.size (planM S out p) (p + 1) ∧ Only w2.heap.size W4 wr) (fun i _ => j - (intOf i).toNat)
          case atStart => exact ⟨0, by omega, rfl, hR5, hM4, Only.refl _ _⟩
          case round =>
            obtain ⟨wo2, rfl⟩ : ∃ wo2 : World, wo2 = wr := ⟨_, rfl⟩
            obtain ⟨p, hp, rfl, hR6, hM6, hO6⟩ := hrel
            clear hR5 hM4
            have O6 : Only rb w wo2 := Touch.trans (Only.trans_ O2 O4) hO6 (fun x hx hlt => by omega)
            have K6 : Keeps w0 wo2 := K0.new O6 hrb
            by_cases hlt : p < j
            · obtain ⟨b, off, rfl, d0⟩ := (hS.keep K6).one hlt
              have d1 : wo2.cell? ⟨b, off + p, none⟩ = some (.int .i64 (S p)) := d0
              obtain ⟨b2, off2, rfl, d2⟩ := ((hOr.keepS O4 (fun b off e => by have := hOb b off e; omega)).keepS hO6 (fun b off e => by have := hOb b off e; omega)).one hlt
              have e2 : wo2.cell? ⟨b2, off2 + p, none⟩ = some (.int .i64 (out.getD p 0)) := d2
              have hb2 := hOb b2 off2 rfl
              have e1 := hR6.c 5 _ rfl
              have hv := hbd.out p hlt
              have hv1 := hbig p hlt
              have HT := Lib.hid (show planM S out (p + 1) = putM (planM S out p) (S p) (out.getD p 0) from rfl)
              clear d0 d2 hOb hOr
              generalize out.getD p 0 = y at *
              go_wp2_with fail
              refine wp_region_noPanic ?_
              refine wp_region_held_drew (S := (fun w' => Only w2.heap.size wo2 w')) (by kernel_rfl) (Only.refl _ wo2).drew (fun hHeld => ?_)
              refine' wpAnyH_take (i := 0) ?hi0_1 ?hs0_1 ?hf0_1 ?hr0_1 ?hQ0_1 ?hy0_1 (by assumption) ?rest0_1
              case hi0_1 => simp only [List.getElem?_toArray, List.getElem?_cons_zero] <;> rfl
              case hs0_1 => kernel_rfl
              case hf0_1 => kernel_rfl
              case hr0_1 => kernel_rfl
              case hQ0_1 => exact fun _ _ _ h => h
              case hy0_1 => exact Or.inl ⟨by rfl, fun w hSw => by have q1 := cell_only e1 hSw (by show rb ≠ _; omega); have q2 := cell_only e2 hSw (by show b2 ≠ _; omega); go_simp <;> (try with_reducible rfl)⟩
              simp only [Act.put, List.setIfInBounds_toArray, List.set_cons_zero, List.set_cons_succ]
              refine' wpAnyH_take (i := 1) ?hi1_1 ?hs1_1 ?hf1_1 ?hr1_1 ?hQ1_1 ?hy1_1 (by assumption) ?rest1_1
              case hi1_1 => simp only [List.getElem?_toArray, List.getElem?_cons_succ, List.getElem?_cons_zero] <;> rfl
              case hs1_1 => kernel_rfl
              case hf1_1 => kernel_rfl
              case hr1_1 => kernel_rfl
              case hQ1_1 => exact fun _ _ _ h => h
              case hy1_1 => exact Or.inl ⟨by rfl, fun w hSw => by have q1 := cell_only e1 hSw (by show rb ≠ _; omega); have q2 := cell_only e2 hSw (by show b2 ≠ _; omega); go_simp <;> (try with_reducible rfl)⟩
              simp only [Act.put, List.setIfInBounds_toArray, List.set_cons_zero, List.set_cons_succ]
              refine' wpAnyH_take (i := 2) ?hi2_1 ?hs2_1 ?hf2_1 ?hr2_1 ?hQ2_1 ?hy2_1 (by assumption) ?rest2_1
              case hi2_1 => simp only [List.getElem?_toArray, List.getElem?_cons_succ, List.getElem?_cons_zero] <;> rfl
              case hs2_1 => kernel_rfl
              case hf2_1 => kernel_rfl
              case hr2_1 => kernel_rfl
              case hQ2_1 => exact fun _ _ _ h => h
              case hy2_1 => exact Or.inl ⟨by rfl, fun w hSw => by have q1 := cell_only e1 hSw (by show rb ≠ _; omega); have q2 := cell_only e2 hSw (by show b2 ≠ _; omega); go_simp <;> (try with_reducible rfl)⟩
              simp only [Act.put, List.setIfInBounds_toArray, List.set_cons_zero, List.set_cons_succ]
              refine' wpAnyH_take (i := 3) ?hi3_1 ?hs3_1 ?hf3_1 ?hr3_1 ?hQ3_1 ?hy3_1 (by assumption) ?rest3_1
              case hi3_1 => simp only [List.getElem?_toArray, List.getElem?_cons_succ, List.getElem?_cons_zero] <;> rfl
              case hs3_1 => kernel_rfl
              case hf3_1 => kernel_rfl
              case hr3_1 => kernel_rfl
              case hQ3_1 => exact fun _ _ _ h => h
              case hy3_1 => exact Or.inl ⟨by rfl, fun w hSw => by have q1 := cell_only e1 hSw (by show rb ≠ _; omega); have q2 := cell_only e2 hSw (by show b2 ≠ _; omega); go_simp <;> (try with_reducible rfl)⟩
              simp only [Act.put, List.setIfInBounds_toArray, List.set_cons_zero, List.set_cons_succ]
              refine' wpAnyH_take (i := 4) ?hi4_1 ?hs4_1 ?hf4_1 ?hr4_1 ?hQ4_1 ?hy4_1 (by assumption) ?rest4_1
              case hi4_1 => simp only [List.getElem?_toArray, List.getElem?_cons_succ, List.getElem?_cons_zero] <;> rfl
              case hs4_1 => kernel_rfl
              case hf4_1 => kernel_rfl
              case hr4_1 => kernel_rfl
              case hQ4_1 => exact fun _ _ _ h => h
              case hy4_1 => exact Or.inl ⟨by rfl, fun w hSw => by have q1 := cell_only e1 hSw (by show rb ≠ _; omega); have q2 := cell_only e2 hSw (by show b2 ≠ _; omega); go_simp <;> (try with_reducible rfl)⟩
              simp only [Act.put, List.setIfInBounds_toArray, List.set_cons_zero, List.set_cons_succ]
              refine' wpAnyH_take (i := 5) ?hi5_1 ?hs5_1 ?hf5_1 ?hr5_1 ?hQ5_1 ?hy5_1 (by assumption) ?rest5_1
              case hi5_1 => simp only [List.getElem?_toArray, List.getElem?_cons_succ, List.getElem?_cons_zero] <;> rfl
              case hs5_1 => kernel_rfl
              case hf5_1 => kernel_rfl
              case hr5_1 => kernel_rfl
              case hQ5_1 => exact fun _ _ _ h => h
              case hy5_1 => exact Or.inl ⟨by rfl, fun w hSw => by have q1 := cell_only e1 hSw (by show rb ≠ _; omega); have q2 := cell_only e2 hSw (by show b2 ≠ _; omega); go_simp <;> (try with_reducible rfl)⟩
              simp only [Act.put, List.setIfInBounds_toArray, List.set_cons_zero, List.set_cons_succ]
              refine' wpAnyH_take (i := 6) ?hi6_1 ?hs6_1 ?hf6_1 ?hr6_1 ?hQ6_1 ?hy6_1 (by assumption) ?rest6_1
              case hi6_1 => simp only [List.getElem?_toArray, List.getElem?_cons_succ, List.getElem?_cons_zero] <;> rfl
              case hs6_1 => kernel_rfl
              case hf6_1 => kernel_rfl
              case hr6_1 => kernel_rfl
              case hQ6_1 => exact fun _ _ _ h => h
              case hy6_1 => exact Or.inl ⟨by rfl, fun w hSw => by have q1 := cell_only e1 hSw (by show rb ≠ _; omega); have q2 := cell_only e2 hSw (by show b2 ≠ _; omega); go_simp <;> (try with_reducible rfl)⟩
              simp only [Act.put, List.setIfInBounds_toArray, List.set_cons_zero, List.set_cons_succ]
              refine' wpAnyH_take (i := 7) ?hi7_1 ?hs7_1 ?hf7_1 ?hr7_1 ?hQ7_1 ?hy7_1 (by assumption) ?rest7_1
              case hi7_1 => simp only [List.getElem?_toArray, List.getElem?_cons_succ, List.getElem?_cons_zero] <;> rfl
              case hs7_1 => kernel_rfl
              case hf7_1 => kernel_rfl
              case hr7_1 => kernel_rfl
              case hQ7_1 => exact fun _ _ _ h => h
              case hy7_1 => exact Or.inl ⟨by rfl, fun w hSw => by have q1 := cell_only e1 hSw (by show rb ≠ _; omega); have q2 := cell_only e2 hSw (by show b2 ≠ _; omega); go_simp <;> (try with_reducible rfl)⟩
              simp only [Act.put, List.setIfInBounds_toArray, List.set_cons_zero, List.set_cons_succ]
              refine' wpAnyH_take (i := 8) ?hi8_1 ?hs8_1 ?hf8_1 ?hr8_1 ?hQ8_1 ?hy8_1 (by assumption) ?rest8_1
              case hi8_1 => simp only [List.getElem?_toArray, List.getElem?_cons_succ, List.getElem?_cons_zero] <;> rfl
              case hs8_1 => kernel_rfl
              case hf8_1 => kernel_rfl
              case hr8_1 => kernel_rfl
              case hQ8_1 => exact fun _ _ _ h => h
              case hy8_1 => exact Or.inl ⟨by rfl, fun w hSw => by have q1 := cell_only e1 hSw (by show rb ≠ _; omega); have q2 := cell_only e2 hSw (by show b2 ≠ _; omega); go_simp <;> (try with_reducible rfl)⟩
              simp only [Act.put, List.setIfInBounds_toArray, List.set_cons_zero, List.set_cons_succ]
              refine wpAnyH_ready (rs := [9]) (by kernel_rfl) (by simp) ?_
              refine AllReadyH.cons rfl (fun K hK => ?_) AllReadyH.nil
              have hM5 := hM6.touch (Touch.drew (Touch.refl (fun _ => False) wo2)) (fun h => h)
              obtain ⟨w5, hput, hM7, hO7⟩ := hM5.put (x := S p) (v := y) (HSi.out p hlt) ⟨by omega, by omega⟩ (by omega)
              go_simp
              refine hK.out _ _ (hHeld.trans_ hO7) (fun hHeld => ?_)
              clear hK K
              refine wpAnyH_done (by kernel_rfl) ?_ _
              refine NoPanic.normal ?_
              go_wp2_with fail
              go_roundw
              case rel => exact ⟨p + 1, by omega, by go_num, hR6.touch hHeld (by omega), by rw [HT.out]; exact hM7, hO6.trans_ hHeld⟩
              case measure => simp [intOf]; omega
            · obtain rfl : p = j := by omega
              go_wp2_with fail
              go_returns
              exact .inl ⟨G, X, _, _, _, ad1, cp1, rfl, HG.out, HA.out, HWl.out, ((hZ3.touch O4 (fun k e h => by have := (hlz k e).1; omega)).touch hO6 (fun k e h => by have := (hlz k e).2; omega)).mono (by omega), hR6, by rw [HO.out]; exact hM6, by omega,
                by rw [HN.out]; exact (((HNx.out.touch O4 (fun g h1 h2 h => by omega)).touch hO6 (fun g h1 h2 h => by omega)).widen (by have := hO6.size; omega)).lower (by omega), O6⟩
        · have hen : (err != 0) = true := by simpa using herr
          go_wp2_with fail
          go_returns
          exact .inr ⟨err, rfl, herr, O2, .inr (.inr ⟨G, X, HG.out, HA.out, _, _, _, hPl⟩)⟩
  · go_wp2_with fail
    go_returns
    exact .inr ⟨12, rfl, by decide, k1.only, .inl ⟨rfl, hE⟩⟩

end Go.Proofs.YtkjgfblkbjlohaaGreat
