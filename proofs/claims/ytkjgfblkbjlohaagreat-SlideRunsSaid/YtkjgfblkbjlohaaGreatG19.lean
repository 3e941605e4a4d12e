/- Layer 16, slide: a run's walk. -/
import Derived.Test.YtkjgfblkbjlohaaGreatG39
import Derived.Test.YtkjgfblkbjlohaaGreatG18
import Derived.Test.YtkjgfblkbjlohaaGreatG40
set_option linter.all false

namespace Go.Proofs.YtkjgfblkbjlohaaGreat
open Go.RowKit

/-- What is walked through is one thing. -/
theorem WalkR.same {T : Int → Th × Int} {z a : Int} {L L' : List Int} {e e' : Int} (h : WalkR T z a L e) (h' : WalkR T z a L' e') : L = L' ∧ e = e' := by
  induction h generalizing L' e' with
  | done h1 => cases h' with
    | done => exact ⟨rfl, rfl⟩
    | err h2 => omega
    | far h2 => omega
    | step h2 => omega
  | err h1 h2 => cases h' with
    | done => omega
    | err => exact ⟨rfl, rfl⟩
    | far _ h4 => exact absurd h4 h2
    | step _ h4 => exact absurd h4 h2
  | far h1 h2 h3 => cases h' with
    | done => omega
    | err _ h4 => exact absurd h2 h4
    | far => exact ⟨rfl, rfl⟩
    | step _ _ h4 => omega
  | step h1 h2 h3 h4 ih => cases h' with
    | done => omega
    | err _ h5 => exact absurd h2 h5
    | far _ _ h5 => omega
    | step _ _ _ h5 =>
      obtain ⟨rfl, rfl⟩ := ih h5
      exact ⟨rfl, rfl⟩
/-- What is walked through lies in the arena, and is no more than it has words. -/
theorem WalkR.small {n m : Nat} {f : Nat → Int} {C : Nat → Cl} (hC : ∀ j, j < m → (C j).ok) {z a : Int} {L : List Int} {e : Int} (h : WalkR (atT n f m C) z a L e) :
    (∀ x, x ∈ L → 1 ≤ x ∧ x < n ∧ a ≤ x ∧ (atT n f m C x).2 = 0 ∧ (atT n f m C x).1.is = true) ∧ (L = [] ∨ (1 ≤ a ∧ (L.length : Int) + a ≤ n)) := by
  induction h with
  | done h1 => exact ⟨fun x hx => (by cases hx), .inl rfl⟩
  | err h1 h2 => exact ⟨fun x hx => (by cases hx), .inl rfl⟩
  | far h1 h2 h3 => exact ⟨fun x hx => (by cases hx), .inl rfl⟩
  | step h1 h2 h3 h4 ih =>
    rename_i a L e
    obtain ⟨k1, k2, k3, _⟩ := at_ok hC h2
    by_cases he : e = 0
    · rw [if_pos he]
      cases hi : (atT n f m C a).1.is with
      | true =>
        rw [if_pos rfl]
        refine ⟨fun x hx => ?_, .inr ⟨k1, ?_⟩⟩
        · rcases List.mem_cons.1 hx with rfl | hx
          · exact ⟨k1, by omega, by omega, h2, hi⟩
          · obtain ⟨q1, q2, q3, q4⟩ := ih.1 x hx
            exact ⟨q1, q2, by omega, q4⟩
        · rcases ih.2 with rfl | ⟨q1, q2⟩
          · simp; omega
          · simp; omega
      | false =>
        rw [if_neg (by decide)]
        refine ⟨fun x hx => ?_, ih.2.elim .inl (fun q => .inr ⟨k1, by omega⟩)⟩
        obtain ⟨q1, q2, q3, q4⟩ := ih.1 x hx
        exact ⟨q1, q2, by omega, q4⟩
    · rw [if_neg he]
      exact ⟨fun x hx => (by cases hx), .inl rfl⟩

/-- All spaces are walked through; S holds the objects. -/
structure Walked (T : Int → Th × Int) (L : Nat → Sp) (n : Nat) (G : Nat → List Int) (S : Int → Bool) : Prop where
  walk : ∀ j, j < n → WalkR T (L j).t (L j).f (G j) 0
  mem : ∀ h, S h = true ↔ ∃ j, j < n ∧ h ∈ G j
def WalksOut (T : Int → Th × Int) (L : Nat → Sp) (n : Nat) (w : World) (e : Ending) (w' : World) : Prop :=
  (∃ mb S c cnt G, e = .returned (.tuple #[.map (some mb), .int .i64 0]) ∧ Walked T L n G S ∧ SetIs w' mb S c cnt ∧ w.heap.size ≤ mb ∧ Keeps w w') ∨
  (e = .returned (.tuple #[.map none, .int .i64 12]) ∧ (∃ j, j < n ∧ ∃ x, x ≠ 0 ∧ WalkR T (L j).t (L j).f [] x) ∧ Keeps w w')
def WalksAt (T : Int → Th × Int) (L : Nat → Sp) (w : World) (q nA : Nat) (wr : World) : Prop :=
  ∃ S c cnt G, Walked T L q G S ∧ SetIs wr w.heap.size S c cnt ∧ cnt ≤ q * nA ∧ Keeps w wr
/-- What a run's block holds. -/
def runV (ba bt : Nat) (stay sizes tv : Value) : List Value := [.pointer (some ⟨ba, 0, none⟩), .pointer (some ⟨ba, 0, none⟩), .pointer (some ⟨bt, 0, none⟩), stay, sizes, tv]
theorem make_set (w : World) : (Instr.makeMap 142 none).run Tryz.prog w = .ok (.map (some w.heap.size)) (w.alloc (.map #[] 0)) := run_makeMap _ w
theorem cell_keep {w w' : World} {p : Addr} {v : Value} (h : w.cell? p = some v) (k : Keeps w w') : w'.cell? p = some v := by
  rw [← h]
  exact World.cell?_of_block (k.block _ (block_lt_of_cell h) (fun h => h))

set_option maxHeartbeats 1000000 in
theorem rwalks_any (ba bw n : Nat) (f : Nat → Int) (bt : Nat) (A : Option Addr) (m cap : Nat) (C : Nat → Cl) (w : World) (h : St w ba bw n f bt A m cap C) (rb : Nat) (stay sizes tv : Value)
    (hR : BL w rb 85 (runV ba bt stay sizes tv)) (D : Option Addr) (q qc : Nat) (L : Nat → Sp) (hL : Rd w D (q * 3) (spF L)) (hI : ∀ i, i < q → InI (L i).t) (hq : q ≤ 20) :
    Calls Tryz.prog 71 #[.pointer (some ⟨rb, 0, none⟩), .slice D q qc] w (WalksOut (atT n f m C) L q w) := by
  have hSt := Lib.hid h
  have HW := Lib.hid (fun w' (h : St w' ba bw n f bt A m cap C) (i : Nat) (hi : i < q) => walk_any ba bw n f bt A m cap C w' h (L i).f (L i).t (hI i hi))
  have HSm := Lib.hid (fun z a X e (hh : WalkR (atT n f m C) z a X e) => hh.small h.tb.ok)
  have hle := h.ar.le
  clear h
  have c1 : w.cell? ⟨rb, 1, none⟩ = some (.pointer (some ⟨ba, 0, none⟩)) := hR.c 1 _ rfl
  have c2 : w.cell? ⟨rb, 2, none⟩ = some (.pointer (some ⟨bt, 0, none⟩)) := hR.c 2 _ rfl
  have hrb := hR.lt
  clear hR
  have C1 := Lib.hid c1
  have C2 := Lib.hid c2
  unfold stV at *
  have hmk := make_set
  go_enter Tryz.func71, Tryz.ntmps71
  go_wp2_with fail
  go_loopw [16] (fun i wr => ∃ j : Nat, j ≤ q ∧ i = .int .i64 j ∧ WalksAt (atT n f m C) L w j n wr) (fun i _ => q - (intOf i).toNat)
  case atStart => exact ⟨0, by omega, rfl, fun _ => false, 0, 0, fun _ => [], ⟨fun j hj => by omega, fun h => ⟨fun h => (by cases h), fun ⟨j, hj, _⟩ => by omega⟩⟩, SetIs.made w, by omega, (Touch.refl _ w).alloc _⟩
  case round =>
    obtain ⟨wo, rfl⟩ : ∃ wo : World, wo = wr := ⟨_, rfl⟩
    obtain ⟨j, hj, rfl, S, c, cnt, G, hG, hS, hcn, Kr⟩ := hrel
    have HG := Lib.hid hG
    clear hG c1 c2
    have c1 := cell_keep C1.out Kr
    have c2 := cell_keep C2.out Kr
    have zr := Kr.size
    have ls := hS.lt
    by_cases hlt : j < q
    · obtain ⟨b, off, rfl, d0, d1, d2⟩ := (hL.keep Kr).sp hlt
      go_wp2_with fail
      refine named_code (fun W1 hW1 => ?_)
      have k1 : Keeps wo W1 := by rw [hW1]; exact (Touch.refl _ _).alloc _
      have b1 : BL W1 wo.heap.size 56 [.int .i64 (L j).f, .int .i64 (L j).t, .int .i64 (L j).e] := by rw [hW1]; exact BL.new1 _ _ _ [.int .i64 (L j).f, .int .i64 (L j).t, .int .i64 (L j).e] _ (by simp) rfl
      clear hW1
      have e1 := cell_keep c1 k1
      have e2 := cell_keep c2 k1
      have e3 := b1.c 0 _ rfl
      have e4 := b1.c 1 _ rfl
      refine wp_region_noPanic ?_
      refine wp_region_held_drew (S := (fun w' => Keeps W1 w')) (by kernel_rfl) (Touch.refl _ W1).drew (fun hHeld => ?_)
      refine' wpAnyH_take (i := 0) ?hi0_1 ?hs0_1 ?hf0_1 ?hr0_1 ?hQ0_1 ?hy0_1 (by assumption) ?rest0_1
      case hi0_1 => simp only [List.getElem?_toArray, List.getElem?_cons_zero] <;> rfl
      case hs0_1 => kernel_rfl
      case hf0_1 => kernel_rfl
      case hr0_1 => kernel_rfl
      case hQ0_1 => exact fun _ _ _ h => h
      case hy0_1 => exact Or.inl ⟨by rfl, fun w hSw => by have q1 := cell_keep e1 hSw; have q2 := cell_keep e2 hSw; have q3 := cell_keep e3 hSw; have q4 := cell_keep e4 hSw; go_simp <;> (try with_reducible rfl)⟩
      simp only [Act.put, List.setIfInBounds_toArray, List.set_cons_zero, List.set_cons_succ]
      refine' wpAnyH_take (i := 1) ?hi1_1 ?hs1_1 ?hf1_1 ?hr1_1 ?hQ1_1 ?hy1_1 (by assumption) ?rest1_1
      case hi1_1 => simp only [List.getElem?_toArray, List.getElem?_cons_succ, List.getElem?_cons_zero] <;> rfl
      case hs1_1 => kernel_rfl
      case hf1_1 => kernel_rfl
      case hr1_1 => kernel_rfl
      case hQ1_1 => exact fun _ _ _ h => h
      case hy1_1 => exact Or.inl ⟨by rfl, fun w hSw => by have q1 := cell_keep e1 hSw; have q2 := cell_keep e2 hSw; have q3 := cell_keep e3 hSw; have q4 := cell_keep e4 hSw; go_simp <;> (try with_reducible rfl)⟩
      simp only [Act.put, List.setIfInBounds_toArray, List.set_cons_zero, List.set_cons_succ]
      refine' wpAnyH_take (i := 2) ?hi2_1 ?hs2_1 ?hf2_1 ?hr2_1 ?hQ2_1 ?hy2_1 (by assumption) ?rest2_1
      case hi2_1 => simp only [List.getElem?_toArray, List.getElem?_cons_succ, List.getElem?_cons_zero] <;> rfl
      case hs2_1 => kernel_rfl
      case hf2_1 => kernel_rfl
      case hr2_1 => kernel_rfl
      case hQ2_1 => exact fun _ _ _ h => h
      case hy2_1 => exact Or.inl ⟨by rfl, fun w hSw => by have q1 := cell_keep e1 hSw; have q2 := cell_keep e2 hSw; have q3 := cell_keep e3 hSw; have q4 := cell_keep e4 hSw; go_simp <;> (try with_reducible rfl)⟩
      simp only [Act.put, List.setIfInBounds_toArray, List.set_cons_zero, List.set_cons_succ]
      refine' wpAnyH_take (i := 3) ?hi3_1 ?hs3_1 ?hf3_1 ?hr3_1 ?hQ3_1 ?hy3_1 (by assumption) ?rest3_1
      case hi3_1 => simp only [List.getElem?_toArray, List.getElem?_cons_succ, List.getElem?_cons_zero] <;> rfl
      case hs3_1 => kernel_rfl
      case hf3_1 => kernel_rfl
      case hr3_1 => kernel_rfl
      case hQ3_1 => exact fun _ _ _ h => h
      case hy3_1 => exact Or.inl ⟨by rfl, fun w hSw => by have q1 := cell_keep e1 hSw; have q2 := cell_keep e2 hSw; have q3 := cell_keep e3 hSw; have q4 := cell_keep e4 hSw; go_simp <;> (try with_reducible rfl)⟩
      simp only [Act.put, List.setIfInBounds_toArray, List.set_cons_zero, List.set_cons_succ]
      refine' wpAnyH_take (i := 4) ?hi4_1 ?hs4_1 ?hf4_1 ?hr4_1 ?hQ4_1 ?hy4_1 (by assumption) ?rest4_1
      case hi4_1 => simp only [List.getElem?_toArray, List.getElem?_cons_succ, List.getElem?_cons_zero] <;> rfl
      case hs4_1 => kernel_rfl
      case hf4_1 => kernel_rfl
      case hr4_1 => kernel_rfl
      case hQ4_1 => exact fun _ _ _ h => h
      case hy4_1 => exact Or.inl ⟨by rfl, fun w hSw => by have q1 := cell_keep e1 hSw; have q2 := cell_keep e2 hSw; have q3 := cell_keep e3 hSw; have q4 := cell_keep e4 hSw; go_simp <;> (try with_reducible rfl)⟩
      simp only [Act.put, List.setIfInBounds_toArray, List.set_cons_zero, List.set_cons_succ]
      refine' wpAnyH_take (i := 5) ?hi5_1 ?hs5_1 ?hf5_1 ?hr5_1 ?hQ5_1 ?hy5_1 (by assumption) ?rest5_1
      case hi5_1 => simp only [List.getElem?_toArray, List.getElem?_cons_succ, List.getElem?_cons_zero] <;> rfl
      case hs5_1 => kernel_rfl
      case hf5_1 => kernel_rfl
      case hr5_1 => kernel_rfl
      case hQ5_1 => exact fun _ _ _ h => h
      case hy5_1 => exact Or.inl ⟨by rfl, fun w hSw => by have q1 := cell_keep e1 hSw; have q2 := cell_keep e2 hSw; have q3 := cell_keep e3 hSw; have q4 := cell_keep e4 hSw; go_simp <;> (try with_reducible rfl)⟩
      simp only [Act.put, List.setIfInBounds_toArray, List.set_cons_zero, List.set_cons_succ]
      refine' wpAnyH_take (i := 6) ?hi6_1 ?hs6_1 ?hf6_1 ?hr6_1 ?hQ6_1 ?hy6_1 (by assumption) ?rest6_1
      case hi6_1 => simp only [List.getElem?_toArray, List.getElem?_cons_succ, List.getElem?_cons_zero] <;> rfl
      case hs6_1 => kernel_rfl
      case hf6_1 => kernel_rfl
      case hr6_1 => kernel_rfl
      case hQ6_1 => exact fun _ _ _ h => h
      case hy6_1 => exact Or.inl ⟨by rfl, fun w hSw => by have q1 := cell_keep e1 hSw; have q2 := cell_keep e2 hSw; have q3 := cell_keep e3 hSw; have q4 := cell_keep e4 hSw; go_simp <;> (try with_reducible rfl)⟩
      simp only [Act.put, List.setIfInBounds_toArray, List.set_cons_zero, List.set_cons_succ]
      refine' wpAnyH_take (i := 7) ?hi7_1 ?hs7_1 ?hf7_1 ?hr7_1 ?hQ7_1 ?hy7_1 (by assumption) ?rest7_1
      case hi7_1 => simp only [List.getElem?_toArray, List.getElem?_cons_succ, List.getElem?_cons_zero] <;> rfl
      case hs7_1 => kernel_rfl
      case hf7_1 => kernel_rfl
      case hr7_1 => kernel_rfl
      case hQ7_1 => exact fun _ _ _ h => h
      case hy7_1 => exact Or.inl ⟨by rfl, fun w hSw => by have q1 := cell_keep e1 hSw; have q2 := cell_keep e2 hSw; have q3 := cell_keep e3 hSw; have q4 := cell_keep e4 hSw; go_simp <;> (try with_reducible rfl)⟩
      simp only [Act.put, List.setIfInBounds_toArray, List.set_cons_zero, List.set_cons_succ]
      refine wpAnyH_ready (rs := [8]) (by kernel_rfl) (by simp) ?_
      refine AllReadyH.cons rfl (fun K hK => ?_) AllReadyH.nil
      go_simp
      ((with_reducible refine Calls.mono (HW.out _ (hSt.out.keep (Keeps.trans (Keeps.trans Kr k1) hHeld)) j hlt) ?_); rintro e w2 ⟨v, X, x, rfl, hX, hO, k2⟩)
      have HX := Lib.hid hX
      clear hX
      go_wp2_with fail
      refine hK.out _ _ (hHeld.trans k2) (fun hHeld => ?_)
      clear hK K
      refine' wpAnyH_take (i := 9) ?hi9_1 ?hs9_1 ?hf9_1 ?hr9_1 ?hQ9_1 ?hy9_1 (by assumption) ?rest9_1
      case hi9_1 => simp only [List.getElem?_toArray, List.getElem?_cons_succ, List.getElem?_cons_zero] <;> rfl
      case hs9_1 => kernel_rfl
      case hf9_1 => kernel_rfl
      case hr9_1 => kernel_rfl
      case hQ9_1 => exact fun _ _ _ h => h
      case hy9_1 => exact Or.inl ⟨by rfl, fun w hSw => by go_simp <;> (try with_reducible rfl)⟩
      simp only [Act.put, List.setIfInBounds_toArray, List.set_cons_zero, List.set_cons_succ]
      refine' wpAnyH_take (i := 10) ?hi10_1 ?hs10_1 ?hf10_1 ?hr10_1 ?hQ10_1 ?hy10_1 (by assumption) ?rest10_1
      case hi10_1 => simp only [List.getElem?_toArray, List.getElem?_cons_succ, List.getElem?_cons_zero] <;> rfl
      case hs10_1 => kernel_rfl
      case hf10_1 => kernel_rfl
      case hr10_1 => kernel_rfl
      case hQ10_1 => exact fun _ _ _ h => h
      case hy10_1 => exact Or.inl ⟨by rfl, fun w hSw => by go_simp <;> (try with_reducible rfl)⟩
      simp only [Act.put, List.setIfInBounds_toArray, List.set_cons_zero, List.set_cons_succ]
      refine' wpAnyH_take (i := 11) ?hi11_1 ?hs11_1 ?hf11_1 ?hr11_1 ?hQ11_1 ?hy11_1 (by assumption) ?rest11_1
      case hi11_1 => simp only [List.getElem?_toArray, List.getElem?_cons_succ, List.getElem?_cons_zero] <;> rfl
      case hs11_1 => kernel_rfl
      case hf11_1 => kernel_rfl
      case hr11_1 => kernel_rfl
      case hQ11_1 => exact fun _ _ _ h => h
      case hy11_1 => exact Or.inl ⟨by rfl, fun w hSw => by go_simp <;> (try with_reducible rfl)⟩
      simp only [Act.put, List.setIfInBounds_toArray, List.set_cons_zero, List.set_cons_succ]
      refine' wpAnyH_take (i := 12) ?hi12_1 ?hs12_1 ?hf12_1 ?hr12_1 ?hQ12_1 ?hy12_1 (by assumption) ?rest12_1
      case hi12_1 => simp only [List.getElem?_toArray, List.getElem?_cons_succ, List.getElem?_cons_zero] <;> rfl
      case hs12_1 => kernel_rfl
      case hf12_1 => kernel_rfl
      case hr12_1 => kernel_rfl
      case hQ12_1 => exact fun _ _ _ h => h
      case hy12_1 => exact Or.inl ⟨by rfl, fun w hSw => by go_simp <;> (try with_reducible rfl)⟩
      simp only [Act.put, List.setIfInBounds_toArray, List.set_cons_zero, List.set_cons_succ]
      refine' wpAnyH_take (i := 13) ?hi13_1 ?hs13_1 ?hf13_1 ?hr13_1 ?hQ13_1 ?hy13_1 (by assumption) ?rest13_1
      case hi13_1 => simp only [List.getElem?_toArray, List.getElem?_cons_succ, List.getElem?_cons_zero] <;> rfl
      case hs13_1 => kernel_rfl
      case hf13_1 => kernel_rfl
      case hr13_1 => kernel_rfl
      case hQ13_1 => exact fun _ _ _ h => h
      case hy13_1 => exact Or.inl ⟨by rfl, fun w hSw => by go_simp <;> (try with_reducible rfl)⟩
      simp only [Act.put, List.setIfInBounds_toArray, List.set_cons_zero, List.set_cons_succ]
      refine wpAnyH_done (by kernel_rfl) ?_ _
      refine NoPanic.normal ?_
      have K2 := Keeps.trans (Keeps.trans Kr k1) hHeld
      have hS2 := (hS.touch k1 (fun h => h)).touch hHeld (fun h => h)
      have z1 := k1.size
      have z2 := hHeld.size
      clear d0 d1 d2 c1 c2 hS Kr k1 k2 e1 e2 e3 e4 b1
      by_cases hx : x = 0
      · subst hx
        obtain ⟨A2, cp2, hv⟩ := hO.form
        subst hv
        obtain ⟨hrd, hlo⟩ := hO.rd
        obtain ⟨sm1, sm2⟩ := HSm.out _ _ _ _ HX.out
        have hXl : X.length ≤ n := by
          rcases sm2 with h0 | h0
          · rw [h0]; simp
          · omega
        have SM := Lib.hid sm1
        clear sm1 sm2 hO
        go_wp2_with fail
        go_loopw [36] (fun i wr => ∃ (p : Nat) (S' : Int → Bool) (c' cnt' : Nat), p ≤ X.length ∧ i = .int .i64 p ∧ SetIs wr w.heap.size S' c' cnt' ∧ cnt' ≤ cnt + p ∧ (∀ h, S' h = true ↔ S h = true ∨ h ∈ X.take p) ∧ Only w.heap.size w2 wr) (fun i _ => X.length - (intOf i).toNat)
        case atStart => exact ⟨0, S, c, cnt, by omega, rfl, hS2, by omega, fun h => by simp, Only.refl _ _⟩
        case round =>
          obtain ⟨wi, rfl⟩ : ∃ wi : World, wi = wr := ⟨_, rfl⟩
          obtain ⟨p, S', c', cnt', hp, rfl, hS3, hcn', hmem, hO3⟩ := hrel
          have HM := Lib.hid hmem
          clear hmem hS2
          by_cases hpl : p < X.length
          · have hrd3 := hrd.keepS hO3 (fun b off e hb => by have : W1.heap.size ≤ b := (hlo b off e).1; omega)
            obtain ⟨b2, off2, rfl, d3⟩ := hrd3.one hpl
            have d4 : wi.cell? ⟨b2, off2 + p, none⟩ = some (.int .i64 (X.getD p 0)) := d3
            have hmx : X.getD p 0 ∈ X := by rw [List.getD_eq_getElem?_getD, List.getElem?_eq_getElem hpl]; exact List.getElem_mem _
            obtain ⟨y1, y2, _⟩ := SM.out _ hmx
            have HT := Lib.hid (show X.take (p + 1) = X.take p ++ [X.getD p 0] by rw [List.take_add_one, List.getElem?_eq_getElem hpl, List.getD_eq_getElem?_getD, List.getElem?_eq_getElem hpl]; rfl)
            generalize X.getD p 0 = y at *
            have hb : cnt' < 100000 := by
              have : q * n ≤ 20 * 4096 := Nat.mul_le_mul hq hle
              have : (j + 1) * n ≤ q * n := Nat.mul_le_mul_right n hlt
              rw [Nat.succ_mul] at this
              omega
            obtain ⟨w4, hput, hS4, hO4⟩ := hS3.put (x := y) ⟨by omega, by omega⟩ hb
            clear d3 hmx
            go_wp2_with fail
            go_roundw
            case rel => exact ⟨p + 1, _, _, _, by omega, by go_num, hS4, by omega, fun h => by
              rw [HT.out]
              unfold putB
              by_cases e : h = y
              · simp [e]
              · rw [if_neg e, HM.out h]; simp [e], hO3.trans_ hO4⟩
            case measure => simp [intOf]; omega
          · obtain rfl : p = X.length := by omega
            go_wp2_with fail
            go_roundw
            case rel => exact ⟨j + 1, by omega, by go_num, S', c', cnt', (fun i => if i = j then X else G i), ⟨fun i hi => by
              by_cases e : i = j
              · subst e; rw [if_pos rfl]; exact HX.out
              · rw [if_neg e]; exact HG.out.walk i (by omega), fun h => by
              rw [HM.out h, HG.out.mem h, List.take_length]
              refine ⟨fun hh => ?_, fun ⟨i, hi, hm⟩ => ?_⟩
              · rcases hh with ⟨i, hi, hm⟩ | hm
                · exact ⟨i, by omega, by rw [if_neg (by omega)]; exact hm⟩
                · exact ⟨j, by omega, by rw [if_pos rfl]; exact hm⟩
              · by_cases e : i = j
                · rw [if_pos e] at hm; exact .inr hm
                · rw [if_neg e] at hm; exact .inl ⟨i, by omega, hm⟩⟩, hS3, by rw [Nat.succ_mul]; omega, K2.new hO3 (Nat.le_refl _)⟩
            case measure => simp [intOf]; omega
      · have hxn : (x != 0) = true := by simpa using hx
        go_wp2_with fail
        go_returns
        refine .inr ⟨rfl, ⟨j, hlt, x, hx, ?_⟩, K2⟩
        have := HX.out
        cases this with
        | err h1 h2 => exact .err h1 h2
        | far h1 h2 h3 => exact .far h1 h2 h3
        | done => exact absurd rfl hx
        | step h1 h2 h3 h4 => have := WalkR.step h1 h2 h3 h4; rw [if_neg hx] at this; exact this
    · obtain rfl : j = q := by omega
      go_wp2_with fail
      go_returns
      exact .inl ⟨_, S, c, cnt, G, rfl, HG.out, hS, Nat.le_refl _, Kr⟩


end Go.Proofs.YtkjgfblkbjlohaaGreat
