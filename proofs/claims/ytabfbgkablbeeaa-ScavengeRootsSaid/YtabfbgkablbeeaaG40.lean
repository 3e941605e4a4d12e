/- Layer 15's worlds, plain: the spaces of a world that was made are right. -/
import Derived.Test.YtabfbgkablbeeaaG39
import Derived.Test.YtabfbgkablbeeaaG36
import Derived.Test.YtabfbgkablbeeaaG30
import Derived.Test.YtabfbgkablbeeaaG31
set_option linter.all false

namespace Go.Proofs.Ytabfbgkablbeeaa
open Go.ChangeShapes Go.WideShapes Go.ChangeAt Go.RowKit Go.Deep

/-- Things as cells. -/
def tgF (T : Nat → Tg) : Nat → Value := fun j => if j % 4 = 0 then .int .u8 (T (j / 4)).cl else if j % 4 = 1 then .int .u8 (T (j / 4)).ag else if j % 4 = 2 then .int .u8 (T (j / 4)).wh else .int .u8 (T (j / 4)).da
def Tg.ok (t : Tg) : Prop := (0 ≤ t.cl ∧ t.cl ≤ 255) ∧ (0 ≤ t.ag ∧ t.ag ≤ 255) ∧ (0 ≤ t.wh ∧ t.wh ≤ 255) ∧ (0 ≤ t.da ∧ t.da ≤ 255)
/-- A World among the arguments. -/
structure WArg (w : World) (Ac : Option Addr) (m cc : Nat) (C : Nat → Cl) (Th : Option Addr) (nt : Nat) (T : Nat → Tg) (Rf : Option Addr) (nr : Nat) (R : Nat → Int) (Ro : Option Addr) (nz : Nat) (Z : Nat → Int) (s0 s1 : Int) : Prop where
  cls : Rd w Ac (m * 4) (clF C)
  cn : Ac = none → m = 0 ∧ cc = 0
  cl : m ≤ 9223372036854775807
  ths : Rd w Th (nt * 4) (tgF T)
  thok : ∀ i, i < nt → (T i).ok
  tl : nt ≤ 9223372036854775807
  refs : Rd w Rf (nr * 3) (intF .u8 R)
  rok : ∀ i, i < nr * 3 → 0 ≤ R i ∧ R i ≤ 255
  rl : nr ≤ 9223372036854775807
  roots : Rd w Ro nz (intF .u8 Z)
  zok : ∀ i, i < nz → 0 ≤ Z i ∧ Z i ≤ 255
  zl : nz ≤ 9223372036854775807
  s0 : 0 ≤ s0 ∧ s0 ≤ 255
  s1 : 0 ≤ s1 ∧ s1 ≤ 255
/-- A slice's one cell is a slice value. -/
theorem slice_cell {H : Type} {enc : TypeId × Value → H} {P : Program} {w : World} {t e : TypeId} {n : Nat} {v : Value} {x : DataW H × List MemPlace}
    (ht : P.underlying t = some (.slice e)) (h : DataW.trod enc P w 0 (fun _ => true) true n t [v] = some x) :
    ∃ A len cap, v = .slice A len cap ∧ DataW.Trod enc P w 0 (fun _ => true) true t (.slice A len cap) x.1 x.2 := by
  rcases open_slice ht h with ⟨hcs, _⟩ | ⟨a, l, c, m, k, D, Pl, hcs, _⟩
  · simp only [List.cons.injEq, and_true] at hcs
    subst hcs
    exact ⟨_, _, _, rfl, n, h⟩
  · simp only [List.cons.injEq, and_true] at hcs
    subst hcs
    exact ⟨_, _, _, rfl, n, h⟩
theorem rd_things {H : Type} {enc : TypeId × Value → H} {w : World} {A : Option Addr} {len cap : Nat} {d : DataW H} {p : List MemPlace}
    (h : DataW.Trod enc Try.prog w 0 (fun _ => true) true 23 (.slice A len cap) d p) :
    ∃ T, Rd w A (len * 4) (tgF T) ∧ (∀ i, i < len → (T i).ok) ∧ len ≤ maxLen := by
  obtain ⟨h1, h2, h3⟩ := rd_structs Try.underlying23 Try.underlying29 (by kernel_rfl) (by kernel_rfl) h
  have g0 : ∀ i, i < len → _ := fun i hi => (h3 i hi 0 _ rfl).elim fun n h => h.elim fun y h => int_of_trod Try.underlying5 h
  have g1 : ∀ i, i < len → _ := fun i hi => (h3 i hi 1 _ rfl).elim fun n h => h.elim fun y h => int_of_trod Try.underlying5 h
  have g2 : ∀ i, i < len → _ := fun i hi => (h3 i hi 2 _ rfl).elim fun n h => h.elim fun y h => int_of_trod Try.underlying5 h
  have g3 : ∀ i, i < len → _ := fun i hi => (h3 i hi 3 _ rfl).elim fun n h => h.elim fun y h => int_of_trod Try.underlying5 h
  clear h3
  simp only [List.size_toArray, List.length_cons, List.length_nil, Nat.zero_add, Nat.reduceAdd, Nat.add_zero] at h1 g0 g1 g2 g3
  refine ⟨fun i => ⟨intOf (cellAt w A (i * 4)), intOf (cellAt w A (i * 4 + 1)), intOf (cellAt w A (i * 4 + 2)), intOf (cellAt w A (i * 4 + 3))⟩, h1.congr fun j hj => ?_, fun i hi => ⟨u8_bounds (g0 i hi).2, u8_bounds (g1 i hi).2, u8_bounds (g2 i hi).2, u8_bounds (g3 i hi).2⟩, h2⟩
  have hq : j / 4 < len := by omega
  unfold tgF
  rcases (by omega : j % 4 = 0 ∨ j % 4 = 1 ∨ j % 4 = 2 ∨ j % 4 = 3) with e | e | e | e
  · rw [if_pos e]; have := (g0 _ hq).1; dsimp only; rwa [show j / 4 * 4 = j from by omega] at this ⊢
  · rw [if_neg (by omega), if_pos e]; have := (g1 _ hq).1; dsimp only; rwa [show j / 4 * 4 + 1 = j from by omega] at this ⊢
  · rw [if_neg (by omega), if_neg (by omega), if_pos e]; have := (g2 _ hq).1; dsimp only; rwa [show j / 4 * 4 + 2 = j from by omega] at this ⊢
  · rw [if_neg (by omega), if_neg (by omega), if_neg (by omega)]; have := (g3 _ hq).1; dsimp only; rwa [show j / 4 * 4 + 3 = j from by omega] at this ⊢
/-- An array of three small numbers, by its cells. -/
theorem arr3 {H : Type} {enc : TypeId × Value → H} {w : World} {n : Nat} {cs : List Value} {x : DataW H × List MemPlace}
    (h : DataW.trod enc Try.prog w 0 (fun _ => true) true n 64 cs = some x) : ∃ a b c : Int, cs = [.int .u8 a, .int .u8 b, .int .u8 c] ∧ (0 ≤ a ∧ a ≤ 255) ∧ (0 ≤ b ∧ b ≤ 255) ∧ (0 ≤ c ∧ c ≤ 255) := by
  obtain ⟨xs, m, _, _, hl, hxl, hf⟩ := DataW.trod_array Try.underlying64 h
  have h8 : Try.prog.cellsOf 5 = 1 := by kernel_rfl
  have h3 : Try.prog.cellsOf 64 = 3 := by kernel_rfl
  rw [h3] at hl
  rw [h8] at hf
  obtain ⟨v0, v1, v2, rfl⟩ : ∃ v0 v1 v2, cs = [v0, v1, v2] := by
    match cs, hl with
    | [v0, v1, v2], _ => exact ⟨v0, v1, v2, rfl⟩
  have q0 := hf 0 (by omega)
  have q1 := hf 1 (by omega)
  have q2 := hf 2 (by omega)
  rw [List.getElem?_eq_getElem (by omega)] at q0 q1 q2
  obtain ⟨e0, w0⟩ := int_of_trod Try.underlying5 q0
  obtain ⟨e1, w1⟩ := int_of_trod Try.underlying5 q1
  obtain ⟨e2, w2⟩ := int_of_trod Try.underlying5 q2
  exact ⟨_, _, _, by rw [← e0, ← e1, ← e2], u8_bounds w0, u8_bounds w1, u8_bounds w2⟩
theorem rd_arr3 {H : Type} {enc : TypeId × Value → H} {w : World} {A : Option Addr} {len cap : Nat} {d : DataW H} {p : List MemPlace}
    (h : DataW.Trod enc Try.prog w 0 (fun _ => true) true 24 (.slice A len cap) d p) :
    ∃ R : Nat → Int, Rd w A (len * 3) (intF .u8 R) ∧ (∀ i, i < len * 3 → 0 ≤ R i ∧ R i ≤ 255) ∧ len ≤ maxLen := by
  obtain ⟨fuel, hf⟩ := h
  rcases open_slice Try.underlying24 hf with ⟨hcs, _⟩ | ⟨a, l, c, m, k, D, Pl, hcs, _, hl, hm, hmm, _, hi⟩
  · simp [Value.cells] at hcs
    obtain ⟨rfl, rfl, rfl⟩ := hcs
    exact ⟨fun _ => 0, fun h => absurd h (by omega), fun j hj => absurd hj (by omega), by simp [maxLen]⟩
  · simp [Value.cells] at hcs
    obtain ⟨rfl, rfl, rfl⟩ := hcs
    simp only [if_true] at hmm
    subst hmm
    have h3 : Try.prog.cellsOf 64 = 3 := by kernel_rfl
    rw [h3] at hi
    have hcell : ∀ j, j < len * 3 → ∃ x : Int, w.cell? (a.add j) = some (.int .u8 x) ∧ 0 ≤ x ∧ x ≤ 255 := fun j hj => by
      obtain ⟨cs, hc, ht⟩ := hi (j / 3) (by omega)
      obtain ⟨_, hcl, hat⟩ := World.cells?_some hc
      obtain ⟨x0, x1, x2, rfl, b0, b1, b2⟩ := arr3 ht
      have e := hat (i := j % 3) (by simp at hcl; omega)
      rw [Go.Deep.add_add, show j / 3 * 3 + j % 3 = j from by omega] at e
      rcases (by omega : j % 3 = 0 ∨ j % 3 = 1 ∨ j % 3 = 2) with q | q | q
      · rw [q] at e; exact ⟨x0, e, b0⟩
      · rw [q] at e; exact ⟨x1, e, b1⟩
      · rw [q] at e; exact ⟨x2, e, b2⟩
    refine ⟨fun j => intOf (cellAt w (some a) j), (rd_of fun j hj => (hcell j hj).elim fun x hx => ⟨_, hx.1⟩).congr fun j hj => ?_, fun j hj => ?_, by omega⟩
    · obtain ⟨x, hx, _⟩ := hcell j hj
      unfold intF cellAt
      simp only [hx, Option.getD_some]
      rfl
    · obtain ⟨x, hx, b⟩ := hcell j hj
      unfold cellAt
      simp only [hx, Option.getD_some]
      exact b
set_option maxRecDepth 100000 in
/-- A World among the arguments. -/
theorem rd_world {H : Type} {enc : TypeId × Value → H} {w : World} {v : Value} {base : Nat} (hv : Value.okWide Try.prog w .any base 27 v) {d : DataW H} {p : List MemPlace}
    (h : DataW.Trod enc Try.prog w 0 (fun _ => true) true 27 v d p) :
    ∃ Ac m cc C Th nt tc T Rf nr rc R Ro nz zc Z s0 s1, v = .agg #[.slice Ac m cc, .slice Th nt tc, .slice Rf nr rc, .slice Ro nz zc, .int .u8 s0, .int .u8 s1] ∧ WArg w Ac m cc C Th nt T Rf nr R Ro nz Z s0 s1 := by
  obtain ⟨cs, rfl, _⟩ := okWide_struct Try.underlying27 hv
  obtain ⟨fuel, hf⟩ := h
  obtain ⟨xs, n, _, _, hl, hxl, hfd⟩ := DataW.trod_struct Try.underlying27 hf
  have h7 : Try.prog.cellsOf 27 = 6 := by kernel_rfl
  rw [h7] at hl
  obtain ⟨l⟩ := cs
  have hcs : (Value.agg ⟨l⟩).cells.toList = l := by simp [Value.cells]
  rw [hcs] at hl hfd
  obtain ⟨v0, v1, v2, v3, v4, v5, rfl⟩ : ∃ v0 v1 v2 v3 v4 v5, l = [v0, v1, v2, v3, v4, v5] := by
    match l, hl with
    | [v0, v1, v2, v3, v4, v5], _ => exact ⟨v0, v1, v2, v3, v4, v5, rfl⟩
  have q0 : DataW.trod enc Try.prog w 0 (fun _ => true) true n 22 (([v0, v1, v2, v3, v4, v5].drop 0).take (Try.prog.cellsOf 22)) = xs[0]? := hfd 0 _ rfl
  have q1 : DataW.trod enc Try.prog w 0 (fun _ => true) true n 23 (([v0, v1, v2, v3, v4, v5].drop 1).take (Try.prog.cellsOf 23)) = xs[1]? := hfd 1 _ rfl
  have q2 : DataW.trod enc Try.prog w 0 (fun _ => true) true n 24 (([v0, v1, v2, v3, v4, v5].drop 2).take (Try.prog.cellsOf 24)) = xs[2]? := hfd 2 _ rfl
  have q3 : DataW.trod enc Try.prog w 0 (fun _ => true) true n 25 (([v0, v1, v2, v3, v4, v5].drop 3).take (Try.prog.cellsOf 25)) = xs[3]? := hfd 3 _ rfl
  have q4 : DataW.trod enc Try.prog w 0 (fun _ => true) true n 5 (([v0, v1, v2, v3, v4, v5].drop 4).take (Try.prog.cellsOf 5)) = xs[4]? := hfd 4 _ rfl
  have q5 : DataW.trod enc Try.prog w 0 (fun _ => true) true n 5 (([v0, v1, v2, v3, v4, v5].drop 5).take (Try.prog.cellsOf 5)) = xs[5]? := hfd 5 _ rfl
  have k0 : Try.prog.cellsOf 22 = 1 := by kernel_rfl
  have k1 : Try.prog.cellsOf 23 = 1 := by kernel_rfl
  have k2 : Try.prog.cellsOf 24 = 1 := by kernel_rfl
  have k3 : Try.prog.cellsOf 25 = 1 := by kernel_rfl
  have k4 : Try.prog.cellsOf 5 = 1 := by kernel_rfl
  have hxl : xs.length = 6 := hxl
  rw [List.getElem?_eq_getElem (by omega)] at q0 q1 q2 q3 q4 q5
  rw [k0] at q0
  rw [k1] at q1
  rw [k2] at q2
  rw [k3] at q3
  rw [k4] at q4 q5
  obtain ⟨A0, n0, c0, rfl, t0⟩ := slice_cell Try.underlying22 q0
  obtain ⟨A1, n1, c1, rfl, t1⟩ := slice_cell Try.underlying23 q1
  obtain ⟨A2, n2, c2, rfl, t2⟩ := slice_cell Try.underlying24 q2
  obtain ⟨A3, n3, c3, rfl, t3⟩ := slice_cell Try.underlying25 q3
  obtain ⟨e4, w4⟩ := int_of_trod Try.underlying5 q4
  obtain ⟨e5, w5⟩ := int_of_trod Try.underlying5 q5
  have b0 := u8_bounds w4
  have b1 := u8_bounds w5
  have e4' : v4 = .int .u8 (intOf v4) := e4
  have e5' : v5 = .int .u8 (intOf v5) := e5
  generalize intOf v4 = z4 at e4' b0
  generalize intOf v5 = z5 at e5' b1
  obtain ⟨C, hn, hC, hCl⟩ := rd_cls t0
  obtain ⟨T, hT, hTo, hTl⟩ := rd_things t1
  obtain ⟨R, hR, hRo, hRl⟩ := rd_arr3 t2
  obtain ⟨Z, hZ, hZo, hZl⟩ := rd_ints Try.underlying25 Try.underlying5 (by kernel_rfl) t3
  exact ⟨A0, n0, c0, C, A1, n1, c1, T, A2, n2, c2, R, A3, n3, c3, Z, z4, z5, by rw [e4', e5'], hC, hn, hCl, hT, hTo, hTl, hR, hRo, hRl, hZ, fun i hi => u8_bounds (hZo i hi), hZl, b0, b1⟩

end Go.Proofs.Ytabfbgkablbeeaa

namespace Go.Proofs.Ytabfbgkablbeeaa
open Go.RowKit

/-- The roots of a world. -/
def rootsN (s : Lw) (Z : Nat → Int) (k : Nat) : List Int := (List.range k).map fun i => pick s.at_ (Z i % (s.at_.length + 1))
theorem rootsN_succ (s : Lw) (Z : Nat → Int) (k : Nat) : rootsN s Z (k + 1) = rootsN s Z k ++ [pick s.at_ (Z k % (s.at_.length + 1))] := by
  unfold rootsN; rw [List.range_succ, List.map_append]; rfl
theorem rootsN_in (s : Lw) (Z : Nat → Int) (k : Nat) : ∀ x, x ∈ rootsN s Z k → x = 0 ∨ x ∈ s.at_ := fun x hx => by
  unfold rootsN at hx
  obtain ⟨i, _, rfl⟩ := List.mem_map.1 hx
  have := Int.emod_lt_of_pos (Z i) (show (0 : Int) < (s.at_.length : Int) + 1 by omega)
  exact pick_in (by omega)
/-- What is young is not old. -/
theorem yg_notOld {E F : Sp} (hE : 401 ≤ E.f) (hF : 401 ≤ F.f) {x : Int} (h : ygB E F x = true) : notOld x = true := by
  have hx : 401 ≤ x := by
    unfold ygB hasB at h
    simp only [Bool.or_eq_true, Bool.and_eq_true, decide_eq_true_eq] at h
    rcases h with ⟨_, h, _⟩ | ⟨_, h, _⟩ <;> omega
  unfold notOld oldB
  simp
  omega
/-- The dirty cards of a world: those of old objects that lead to young ones. -/
def Dirty (n m : Nat) (C : Nat → Cl) (s : Lw) (D : Nat → Bool) : Prop := ∀ c, D c = true ↔ ∃ a, a ∈ s.at_ ∧ oldB a = true ∧ LeadsTo n m C s.f notOld a ∧ cardN a = c
theorem Dirty.run {n m : Nat} {C : Nat → Cl} {half : Int} {s : Lw} {D : Nat → Bool} (hD : Dirty n m C s D) (H : LwOk n m C (beg15 half) (end15 half) s) (hh : 0 ≤ half) : ∀ a, a ∈ s.g 0 → LeadsTo n m C s.f (ygB (s.sp (beg15 half) (end15 half) 1) (s.sp (beg15 half) (end15 half) 2)) a → D (cardN a) = true := fun a ha ⟨i, hi, hy⟩ => by
  refine (hD _).2 ⟨a, (H.mem a).2 ⟨0, by omega, ha⟩, ?_, ⟨i, hi, yg_notOld (by show 401 ≤ beg15 half 1; unfold beg15; simp) (by show 401 ≤ beg15 half 2; unfold beg15; simp) hy⟩, rfl⟩
  obtain ⟨_, _, _, q0, q1, q2, q3, q4, q5, _⟩ := H.hw.obj (show 0 < 3 by omega) ha
  have hb := H.hw.bd 0 (by omega)
  have h4 : (s.sp (beg15 half) (end15 half) 0).e = 401 := by show end15 half 0 = 401; unfold end15; simp
  unfold oldB
  simp
  omega

end Go.Proofs.Ytabfbgkablbeeaa

namespace Go.Proofs.Ytabfbgkablbeeaa
open Go.RowKit

theorem lay_t3 (s : Lw) (C : Nat → Cl) (m : Nat) (E : Nat → Int) (cl ag wh da : Int) : (s.lay C m E cl ag wh da).t 3 = s.t 3 := by
  unfold Lw.lay
  split
  · rfl
  · have := regW_lt wh
    show (if 3 = regW wh then _ else s.t 3) = s.t 3
    rw [if_neg (by omega)]
theorem layN_t3 {m : Nat} {C : Nat → Cl} {half : Int} {T : Nat → Tg} : ∀ i, (layN C m half T i).t 3 = 601 + half
  | 0 => by show beg15 half 3 = _; unfold beg15; simp
  | i + 1 => (lay_t3 _ _ _ _ _ _ _ _).trans (layN_t3 i)
theorem ref_t (s : Lw) (n m : Nat) (C : Nat → Cl) (a b c : Int) : (s.ref n m C a b c).t = s.t ∧ (s.ref n m C a b c).g = s.g ∧ (s.ref n m C a b c).at_ = s.at_ := by
  unfold Lw.ref
  split
  · exact ⟨rfl, rfl, rfl⟩
  · split <;> exact ⟨rfl, rfl, rfl⟩
theorem refN_t {n m : Nat} {C : Nat → Cl} {R : Nat → Rg} {s : Lw} : ∀ i, (refN n m C R s i).t = s.t ∧ (refN n m C R s i).g = s.g ∧ (refN n m C R s i).at_ = s.at_
  | 0 => ⟨rfl, rfl, rfl⟩
  | i + 1 => by
    obtain ⟨h1, h2, h3⟩ := refN_t (n := n) (m := m) (C := C) (R := R) (s := s) i
    obtain ⟨k1, k2, k3⟩ := ref_t (refN n m C R s i) n m C (R i).a (R i).b (R i).c
    exact ⟨k1.trans h1, k2.trans h2, k3.trans h3⟩
theorem LwOk.toOk {m : Nat} {C : Nat → Cl} {half : Int} {s : Lw} (hh : 0 ≤ half ∧ half ≤ 100) (h3 : s.t 3 = 601 + half) : ToOk 1000 (s.sp (beg15 half) (end15 half)) (s.sp (beg15 half) (end15 half) 3) := by
  refine ⟨?_, fun j hj => ?_⟩
  · show 1 ≤ beg15 half 3 ∧ s.t 3 = beg15 half 3 ∧ beg15 half 3 ≤ end15 half 3 ∧ end15 half 3 ≤ ((1000 : Nat) : Int)
    unfold beg15 end15
    simp
    omega
  · show end15 half j ≤ beg15 half 3 ∨ end15 half 3 ≤ beg15 half j
    unfold beg15 end15
    rcases (by omega : j = 0 ∨ j = 1 ∨ j = 2) with rfl | rfl | rfl <;> simp <;> omega
theorem LwOk.rightY {m : Nat} {C : Nat → Cl} {half : Int} {s : Lw} (H : LwOk 1000 m C (beg15 half) (end15 half) s) (hh : 0 ≤ half ∧ half ≤ 100) (h3 : s.t 3 = 601 + half) {thr : Int} (ht : 0 ≤ thr ∧ thr ≤ 7) : RightY 1000 (s.sp (beg15 half) (end15 half)) thr := by
  have hb := H.hw.bd
  refine ⟨fun i hi => ?_, fun i j hji hi => ?_, ?_, ?_, ht⟩
  · by_cases e : i = 3
    · subst e
      refine ⟨(rightB_iff _).2 ?_, ?_⟩
      · show 0 ≤ beg15 half 3 ∧ beg15 half 3 ≤ s.t 3 ∧ s.t 3 ≤ end15 half 3 ∧ end15 half 3 ≤ 4096
        unfold beg15 end15; simp; omega
      · show 1 ≤ beg15 half 3 ∧ end15 half 3 ≤ ((1000 : Nat) : Int)
        unfold beg15 end15; simp; omega
    · have := hb i (by omega)
      exact ⟨(rightB_iff _).2 (by omega), by omega, by omega⟩
  · show end15 half i ≤ beg15 half j ∨ end15 half j ≤ beg15 half i
    unfold beg15 end15
    rcases (by omega : i = 1 ∨ i = 2 ∨ i = 3) with rfl | rfl | rfl <;> rcases (by omega : j = 0 ∨ j = 1 ∨ j = 2) with rfl | rfl | rfl <;> simp at hji ⊢ <;> omega
  · show s.t 3 = beg15 half 3
    unfold beg15; simp; omega
  · show end15 half 3 - s.t 3 = end15 half 2 - beg15 half 2
    unfold beg15 end15; simp; omega

end Go.Proofs.Ytabfbgkablbeeaa
