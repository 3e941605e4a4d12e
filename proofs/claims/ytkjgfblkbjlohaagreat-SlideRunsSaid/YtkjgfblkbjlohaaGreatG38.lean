/- A World among the arguments: opened. -/
import Derived.Test.YtkjgfblkbjlohaaGreatG02
import Derived.Deep.QuietTactic
import Derived.BigQuiet
import Derived.Test.YtkjgfblkbjlohaaGreatG04
import Derived.Test.YtkjgfblkbjlohaaGreatG37
set_option linter.all false

namespace Go.Proofs.YtkjgfblkbjlohaaGreat
open Go.RowKit

def sameB (n : Nat) (f : Nat → Int) (m : Nat) (g : Nat → Int) : Bool := decide (n = m) && (List.range n).all fun i => f i == g i
theorem sameB_true {n : Nat} {f g : Nat → Int} (h : ∀ i, i < n → f i = g i) : sameB n f n g = true := by
  simp only [sameB, decide_true, Bool.true_and, List.all_eq_true, List.mem_range, beq_iff_eq]
  exact h
theorem sameB_false {n : Nat} {f g : Nat → Int} {m k : Nat} (hk : k < n) (h : f k ≠ g k) : sameB n f m g = false := by
  rw [Bool.eq_false_iff]
  intro e
  simp only [sameB, Bool.and_eq_true, List.all_eq_true, List.mem_range, beq_iff_eq] at e
  exact h (e.2 k hk)

set_option maxHeartbeats 1000000 in
theorem same_any (A B : Option Addr) (n m ca cb : Nat) (f g : Nat → Int) (w : World) (hA : Rd w A n (intF .i64 f)) (hB : Rd w B m (intF .i64 g)) (hn : n ≤ 9223372036854775807) (hm : m ≤ 9223372036854775807) :
    Calls Tryz.prog 10 #[.slice A n ca, .slice B m cb] w fun e w' => e = .returned (.bool (sameB n f m g)) ∧ Keeps w w' := by
  by_cases hnm : n = m
  · subst hnm
    have hne : ((n : Int) != (n : Int)) = false := by simp
    go_enter Tryz.func10, Tryz.ntmps10
    go_wp2_with fail
    go_loopw [13] (fun i wr => ∃ k : Nat, k ≤ n ∧ i = .int .i64 k ∧ (∀ j, j < k → f j = g j) ∧ Keeps w wr) (fun i _ => n - (intOf i).toNat)
    case atStart => exact ⟨0, Nat.zero_le _, rfl, fun j h => by omega, Touch.refl _ _⟩
    case round =>
      obtain ⟨k, hk, rfl, hall, K⟩ := hrel
      have HA := Lib.hid hall
      clear hall
      by_cases hlt : k < n
      · obtain ⟨b1, o1, rfl, c1⟩ := (hA.keep K).one hlt
        obtain ⟨b2, o2, rfl, c2⟩ := (hB.keep K).one hlt
        have c3 : wr.cell? ⟨b1, o1 + k, none⟩ = some (.int .i64 (f k)) := c1
        have c4 : wr.cell? ⟨b2, o2 + k, none⟩ = some (.int .i64 (g k)) := c2
        clear c1 c2
        have hlt' : (k : Int) < (n : Int) := by omega
        by_cases e : f k = g k
        · have hq : (f k != g k) = false := by simp [e]
          have HE := Lib.hid e
          clear e
          go_wp2_with fail
          go_quiet (fail)
          go_wp2_with fail
          go_roundw
          case rel => exact ⟨k + 1, by omega, by go_num, fun j h => by
            rcases (by omega : j < k ∨ j = k) with h' | rfl
            · exact HA.out j h'
            · exact HE.out, K.drewN _⟩
          case measure => simp [intOf]; omega
        · have hq : (f k != g k) = true := by simp [e]
          have HE := Lib.hid (sameB_false (m := n) hlt e)
          clear e
          go_wp2_with fail
          go_quiet (fail)
          go_wp2_with fail
          go_ret
          exact ⟨by rw [HE.out]; rfl, K.drewN _⟩
      · have HE := Lib.hid (sameB_true (n := n) (f := f) (g := g) fun i hi => HA.out i (by omega))
        go_wp2_with fail
        go_ret
        exact ⟨by rw [HE.out]; rfl, K⟩
  · have hne : ((n : Int) != (m : Int)) = true := by simp; omega
    have HE := Lib.hid (show sameB n f m g = false by simp [sameB, hnm])
    clear hnm
    go_enter Tryz.func10, Tryz.ntmps10
    go_wp2_with fail
    go_ret
    exact ⟨by rw [HE.out]; rfl, Touch.refl _ _⟩

end Go.Proofs.YtkjgfblkbjlohaaGreat

namespace Go.Proofs.YtkjgfblkbjlohaaGreat
open Go.ChangeShapes Go.WideShapes Go.ChangeAt Go.RowKit Go.Deep

theorem nil_fields {H : Type} {enc : TypeId × Value → H} {P : Program} {w : World} {t e : TypeId} {fs : Array Field} {len cap : Nat} {d : DataW H} {p : List MemPlace}
    (ht : P.underlying t = some (.slice e)) (he : P.underlying e = some (.struct fs)) (hone : oneCellFields P fs = true) (hC : P.cellsOf e = fs.size)
    (h : DataW.Trod enc P w 0 (fun _ => true) true t (.slice none len cap) d p) : len = 0 ∧ cap = 0 := by
  obtain ⟨fuel, hf⟩ := h
  rcases open_slice_fields ht he hone hC hf with ⟨hcs, _⟩ | ⟨a, l, c, m, D, Pl, hcs, _⟩
  · simp [Value.cells] at hcs
    exact hcs
  · simp [Value.cells] at hcs
theorem rd_cls {H : Type} {enc : TypeId × Value → H} {w : World} {A : Option Addr} {len cap : Nat} {d : DataW H} {p : List MemPlace}
    (h : DataW.Trod enc Tryz.prog w 0 (fun _ => true) true 22 (.slice A len cap) d p) :
    ∃ C, (A = none → len = 0 ∧ cap = 0) ∧ Rd w A (len * 4) (clF C) ∧ len ≤ maxLen := by
  have hn : A = none → len = 0 ∧ cap = 0 := fun e => by
    subst e
    exact nil_fields Tryz.underlying22 Tryz.underlying111 (by kernel_rfl) (by kernel_rfl) h
  obtain ⟨h1, h2, h3⟩ := rd_structs Tryz.underlying22 Tryz.underlying111 (by kernel_rfl) (by kernel_rfl) h
  have g0 : ∀ i, i < len → _ := fun i hi => (h3 i hi 0 _ rfl).elim fun n h => h.elim fun y h => int_of_trod Tryz.underlying3 h
  have g1 : ∀ i, i < len → _ := fun i hi => (h3 i hi 1 _ rfl).elim fun n h => h.elim fun y h => int_of_trod Tryz.underlying3 h
  have g2 : ∀ i, i < len → _ := fun i hi => (h3 i hi 2 _ rfl).elim fun n h => h.elim fun y h => int_of_trod Tryz.underlying3 h
  have g3 : ∀ i, i < len → _ := fun i hi => (h3 i hi 3 _ rfl).elim fun n h => h.elim fun y h => bool_of_trod Tryz.underlying4 h
  clear h3
  simp only [List.size_toArray, List.length_cons, List.length_nil, Nat.zero_add, Nat.reduceAdd, Nat.add_zero] at h1 g0 g1 g2 g3
  refine ⟨fun i => ⟨intOf (cellAt w A (i * 4)), intOf (cellAt w A (i * 4 + 1)), intOf (cellAt w A (i * 4 + 2)), boolOf (cellAt w A (i * 4 + 3))⟩, hn, h1.congr fun j hj => ?_, h2⟩
  have hq : j / 4 < len := by omega
  unfold clF
  rcases (by omega : j % 4 = 0 ∨ j % 4 = 1 ∨ j % 4 = 2 ∨ j % 4 = 3) with e | e | e | e
  · rw [if_pos e]; have := (g0 _ hq).1; dsimp only; rwa [show j / 4 * 4 = j from by omega] at this ⊢
  · rw [if_neg (by omega), if_pos e]; have := (g1 _ hq).1; dsimp only; rwa [show j / 4 * 4 + 1 = j from by omega] at this ⊢
  · rw [if_neg (by omega), if_neg (by omega), if_pos e]; have := (g2 _ hq).1; dsimp only; rwa [show j / 4 * 4 + 2 = j from by omega] at this ⊢
  · rw [if_neg (by omega), if_neg (by omega), if_neg (by omega)]; have := g3 _ hq; dsimp only; rwa [show j / 4 * 4 + 3 = j from by omega] at this ⊢

end Go.Proofs.YtkjgfblkbjlohaaGreat

namespace Go.Proofs.YtkjgfblkbjlohaaGreat
open Go.ChangeShapes Go.WideShapes Go.ChangeAt Go.RowKit Go.Deep

/-- A slice's one cell is a slice value. -/
theorem slice_cell {H : Type} {enc : TypeId × Value → H} {P : Program} {w : World} {t e : TypeId} {n : Nat} {v : Value} {x : DataW H × List MemPlace}
    (ht : P.underlying t = some (.slice e)) (h : DataW.trod enc P w 0 (fun _ => true) true n t [v] = some x) :
    ∃ A len cap, v = .slice A len cap ∧ DataW.Trod enc P w 0 (fun _ => true) true t (.slice A len cap) x.1 x.2 := by
  rcases open_slice ht h with ⟨hcs, _⟩ | ⟨a, l, c, m, k, D, Pl, hcs, _⟩
  · simp only [List.cons.injEq, and_true] at hcs
    subst hcs
    exact ⟨_, _, _, rfl, n, h⟩
  · simp only [List.cons.injEq, and_true] at hcs
    subst hcs
    exact ⟨_, _, _, rfl, n, h⟩
theorem rd_things {H : Type} {enc : TypeId × Value → H} {w : World} {A : Option Addr} {len cap : Nat} {d : DataW H} {p : List MemPlace}
    (h : DataW.Trod enc Tryz.prog w 0 (fun _ => true) true 23 (.slice A len cap) d p) :
    ∃ T, Rd w A (len * 4) (thF T) ∧ (∀ i, i < len → (T i).ok) ∧ len ≤ maxLen := by
  obtain ⟨h1, h2, h3⟩ := rd_structs Tryz.underlying23 Tryz.underlying70 (by kernel_rfl) (by kernel_rfl) h
  have g0 : ∀ i, i < len → _ := fun i hi => (h3 i hi 0 _ rfl).elim fun n h => h.elim fun y h => int_of_trod Tryz.underlying5 h
  have g1 : ∀ i, i < len → _ := fun i hi => (h3 i hi 1 _ rfl).elim fun n h => h.elim fun y h => int_of_trod Tryz.underlying5 h
  have g2 : ∀ i, i < len → _ := fun i hi => (h3 i hi 2 _ rfl).elim fun n h => h.elim fun y h => int_of_trod Tryz.underlying5 h
  have g3 : ∀ i, i < len → _ := fun i hi => (h3 i hi 3 _ rfl).elim fun n h => h.elim fun y h => bool_of_trod Tryz.underlying4 h
  clear h3
  simp only [List.size_toArray, List.length_cons, List.length_nil, Nat.zero_add, Nat.reduceAdd, Nat.add_zero] at h1 g0 g1 g2 g3
  refine ⟨fun i => ⟨intOf (cellAt w A (i * 4)), intOf (cellAt w A (i * 4 + 1)), intOf (cellAt w A (i * 4 + 2)), boolOf (cellAt w A (i * 4 + 3))⟩, h1.congr fun j hj => ?_, fun i hi => ⟨u8_bounds (g0 i hi).2, u8_bounds (g1 i hi).2, u8_bounds (g2 i hi).2⟩, h2⟩
  have hq : j / 4 < len := by omega
  unfold thF
  rcases (by omega : j % 4 = 0 ∨ j % 4 = 1 ∨ j % 4 = 2 ∨ j % 4 = 3) with e | e | e | e
  · rw [if_pos e]; have := (g0 _ hq).1; dsimp only; rwa [show j / 4 * 4 = j from by omega] at this ⊢
  · rw [if_neg (by omega), if_pos e]; have := (g1 _ hq).1; dsimp only; rwa [show j / 4 * 4 + 1 = j from by omega] at this ⊢
  · rw [if_neg (by omega), if_neg (by omega), if_pos e]; have := (g2 _ hq).1; dsimp only; rwa [show j / 4 * 4 + 2 = j from by omega] at this ⊢
  · rw [if_neg (by omega), if_neg (by omega), if_neg (by omega)]; have := g3 _ hq; dsimp only; rwa [show j / 4 * 4 + 3 = j from by omega] at this ⊢
/-- An array of three small numbers, by its cells. -/
theorem arr3 {H : Type} {enc : TypeId × Value → H} {w : World} {n : Nat} {cs : List Value} {x : DataW H × List MemPlace}
    (h : DataW.trod enc Tryz.prog w 0 (fun _ => true) true n 26 cs = some x) : ∃ a b c : Int, cs = [.int .u8 a, .int .u8 b, .int .u8 c] ∧ (0 ≤ a ∧ a ≤ 255) ∧ (0 ≤ b ∧ b ≤ 255) ∧ (0 ≤ c ∧ c ≤ 255) := by
  obtain ⟨xs, m, _, _, hl, hxl, hf⟩ := DataW.trod_array Tryz.underlying26 h
  have h8 : Tryz.prog.cellsOf 5 = 1 := by kernel_rfl
  have h3 : Tryz.prog.cellsOf 26 = 3 := by kernel_rfl
  rw [h3] at hl
  rw [h8] at hf
  obtain ⟨v0, v1, v2, rfl⟩ : ∃ v0 v1 v2, cs = [v0, v1, v2] := by
    match cs, hl with
    | [v0, v1, v2], _ => exact ⟨v0, v1, v2, rfl⟩
  have q0 := hf 0 (by omega)
  have q1 := hf 1 (by omega)
  have q2 := hf 2 (by omega)
  rw [List.getElem?_eq_getElem (by omega)] at q0 q1 q2
  obtain ⟨e0, w0⟩ := int_of_trod Tryz.underlying5 q0
  obtain ⟨e1, w1⟩ := int_of_trod Tryz.underlying5 q1
  obtain ⟨e2, w2⟩ := int_of_trod Tryz.underlying5 q2
  exact ⟨_, _, _, by rw [← e0, ← e1, ← e2], u8_bounds w0, u8_bounds w1, u8_bounds w2⟩
theorem rd_arr3 {H : Type} {enc : TypeId × Value → H} {w : World} {A : Option Addr} {len cap : Nat} {d : DataW H} {p : List MemPlace}
    (h : DataW.Trod enc Tryz.prog w 0 (fun _ => true) true 24 (.slice A len cap) d p) :
    ∃ R : Nat → Int, Rd w A (len * 3) (intF .u8 R) ∧ (∀ i, i < len * 3 → 0 ≤ R i ∧ R i ≤ 255) ∧ len ≤ maxLen := by
  obtain ⟨fuel, hf⟩ := h
  rcases open_slice Tryz.underlying24 hf with ⟨hcs, _⟩ | ⟨a, l, c, m, k, D, Pl, hcs, _, hl, hm, hmm, _, hi⟩
  · simp [Value.cells] at hcs
    obtain ⟨rfl, rfl, rfl⟩ := hcs
    exact ⟨fun _ => 0, fun h => absurd h (by omega), fun j hj => absurd hj (by omega), by simp [maxLen]⟩
  · simp [Value.cells] at hcs
    obtain ⟨rfl, rfl, rfl⟩ := hcs
    simp only [if_true] at hmm
    subst hmm
    have h3 : Tryz.prog.cellsOf 26 = 3 := by kernel_rfl
    rw [h3] at hi
    have hcell : ∀ j, j < len * 3 → ∃ x : Int, w.cell? (a.add j) = some (.int .u8 x) ∧ 0 ≤ x ∧ x ≤ 255 := fun j hj => by
      obtain ⟨cs, hc, ht⟩ := hi (j / 3) (by omega)
      obtain ⟨_, hcl, hat⟩ := World.cells?_some hc
      obtain ⟨x0, x1, x2, rfl, b0, b1, b2⟩ := arr3 ht
      have e := hat (i := j % 3) (by simp at hcl; omega)
      rw [Go.Deep.add_add, show j / 3 * 3 + j % 3 = j from by omega] at e
      rcases (by omega : j % 3 = 0 ∨ j % 3 = 1 ∨ j % 3 = 2) with q | q | q
      · rw [q] at e; exact ⟨x0, e, b0⟩
      · rw [q] at e; exact ⟨x1, e, b1⟩
      · rw [q] at e; exact ⟨x2, e, b2⟩
    refine ⟨fun j => intOf (cellAt w (some a) j), (rd_of fun j hj => (hcell j hj).elim fun x hx => ⟨_, hx.1⟩).congr fun j hj => ?_, fun j hj => ?_, by omega⟩
    · obtain ⟨x, hx, _⟩ := hcell j hj
      unfold intF cellAt
      simp only [hx, Option.getD_some]
      rfl
    · obtain ⟨x, hx, b⟩ := hcell j hj
      unfold cellAt
      simp only [hx, Option.getD_some]
      exact b
set_option maxRecDepth 100000 in
/-- A World among the arguments. -/
theorem rd_world {H : Type} {enc : TypeId × Value → H} {w : World} {v : Value} {base : Nat} (hv : Value.okWide Tryz.prog w .any base 28 v) {d : DataW H} {p : List MemPlace}
    (h : DataW.Trod enc Tryz.prog w 0 (fun _ => true) true 28 v d p) :
    ∃ Ac m cc C Th nt tc T Rf nr rc R Ro nz zc Z s0 s1 s2, v = .agg #[.slice Ac m cc, .slice Th nt tc, .slice Rf nr rc, .slice Ro nz zc, .int .u8 s0, .int .u8 s1, .int .u8 s2] ∧ WArg w Ac m cc C Th nt T Rf nr R Ro nz Z s0 s1 s2 := by
  obtain ⟨cs, rfl, _⟩ := okWide_struct Tryz.underlying28 hv
  obtain ⟨fuel, hf⟩ := h
  obtain ⟨xs, n, _, _, hl, hxl, hfd⟩ := DataW.trod_struct Tryz.underlying28 hf
  have h7 : Tryz.prog.cellsOf 28 = 7 := by kernel_rfl
  rw [h7] at hl
  obtain ⟨l⟩ := cs
  have hcs : (Value.agg ⟨l⟩).cells.toList = l := by simp [Value.cells]
  rw [hcs] at hl hfd
  obtain ⟨v0, v1, v2, v3, v4, v5, v6, rfl⟩ : ∃ v0 v1 v2 v3 v4 v5 v6, l = [v0, v1, v2, v3, v4, v5, v6] := by
    match l, hl with
    | [v0, v1, v2, v3, v4, v5, v6], _ => exact ⟨v0, v1, v2, v3, v4, v5, v6, rfl⟩
  have q0 : DataW.trod enc Tryz.prog w 0 (fun _ => true) true n 22 (([v0, v1, v2, v3, v4, v5, v6].drop 0).take (Tryz.prog.cellsOf 22)) = xs[0]? := hfd 0 _ rfl
  have q1 : DataW.trod enc Tryz.prog w 0 (fun _ => true) true n 23 (([v0, v1, v2, v3, v4, v5, v6].drop 1).take (Tryz.prog.cellsOf 23)) = xs[1]? := hfd 1 _ rfl
  have q2 : DataW.trod enc Tryz.prog w 0 (fun _ => true) true n 24 (([v0, v1, v2, v3, v4, v5, v6].drop 2).take (Tryz.prog.cellsOf 24)) = xs[2]? := hfd 2 _ rfl
  have q3 : DataW.trod enc Tryz.prog w 0 (fun _ => true) true n 25 (([v0, v1, v2, v3, v4, v5, v6].drop 3).take (Tryz.prog.cellsOf 25)) = xs[3]? := hfd 3 _ rfl
  have q4 : DataW.trod enc Tryz.prog w 0 (fun _ => true) true n 26 (([v0, v1, v2, v3, v4, v5, v6].drop 4).take (Tryz.prog.cellsOf 26)) = xs[4]? := hfd 4 _ rfl
  have k0 : Tryz.prog.cellsOf 22 = 1 := by kernel_rfl
  have k1 : Tryz.prog.cellsOf 23 = 1 := by kernel_rfl
  have k2 : Tryz.prog.cellsOf 24 = 1 := by kernel_rfl
  have k3 : Tryz.prog.cellsOf 25 = 1 := by kernel_rfl
  have k4 : Tryz.prog.cellsOf 26 = 3 := by kernel_rfl
  have hxl : xs.length = 5 := hxl
  rw [List.getElem?_eq_getElem (by omega)] at q0 q1 q2 q3 q4
  rw [k0] at q0
  rw [k1] at q1
  rw [k2] at q2
  rw [k3] at q3
  rw [k4] at q4
  obtain ⟨A0, n0, c0, rfl, t0⟩ := slice_cell Tryz.underlying22 q0
  obtain ⟨A1, n1, c1, rfl, t1⟩ := slice_cell Tryz.underlying23 q1
  obtain ⟨A2, n2, c2, rfl, t2⟩ := slice_cell Tryz.underlying24 q2
  obtain ⟨A3, n3, c3, rfl, t3⟩ := slice_cell Tryz.underlying25 q3
  obtain ⟨s0, s1, s2, e, b0, b1, b2⟩ := arr3 q4
  have e' : [v4, v5, v6] = [Value.int .u8 s0, .int .u8 s1, .int .u8 s2] := e
  simp only [List.cons.injEq, and_true] at e'
  obtain ⟨rfl, rfl, rfl⟩ := e'
  obtain ⟨C, hn, hC, hCl⟩ := rd_cls t0
  obtain ⟨T, hT, hTo, hTl⟩ := rd_things t1
  obtain ⟨R, hR, hRo, hRl⟩ := rd_arr3 t2
  obtain ⟨Z, hZ, hZo, hZl⟩ := rd_ints Tryz.underlying25 Tryz.underlying5 (by kernel_rfl) t3
  exact ⟨A0, n0, c0, C, A1, n1, c1, T, A2, n2, c2, R, A3, n3, c3, Z, s0, s1, s2, rfl, hC, hn, hCl, hT, hTo, hTl, hR, hRo, hRl, hZ, fun i hi => u8_bounds (hZo i hi), hZl, b0, b1, b2⟩

end Go.Proofs.YtkjgfblkbjlohaaGreat
