/- Lists of integers that a call makes for itself: what is known of them; one more is appended. -/
import Derived.Test.YtabfbgkablbeeaaG01
import Derived.ProofKit
import Derived.OpenShut
import Derived.ShutString
import Derived.ChangeOld
import Derived.Below
import Derived.Deep.Slices
import Derived.Deep.Fields
import Derived.ChangeSame
import Derived.Laws.Cover2
import Derived.Maps.AppendAt
set_option linter.all false

namespace Go.Proofs.Ytabfbgkablbeeaa
open Go.ChangeShapes Go.WideShapes Go.ChangeAt Go.RowKit Go.Deep

theorem own : ownKnob Try.prog.godebug = none := by kernel_rfl
theorem laidOut : laidOutB Try.prog = true := by kernel_rfl

section
variable {H : Type} {enc : TypeId × Value → H} {P : Program} {w : World} {base : Nat} {spare : Nat → Bool} {held : Bool}
theorem open_slice_fields {t e : TypeId} {fs : Array Field} {fuel : Nat} {cs : List Value} {x : DataW H × List MemPlace} (ht : P.underlying t = some (.slice e)) (he : P.underlying e = some (.struct fs))
    (hone : oneCellFields P fs = true) (hC : P.cellsOf e = fs.size) (h : DataW.trod enc P w base spare held fuel t cs = some x) :
    (cs = [.slice none 0 0] ∧ x = (.nil, [])) ∨
    ∃ (a : Addr) (len cap m : Nat) (D : Nat → DataW H) (Pl : Nat → List MemPlace), cs = [.slice (some a) len cap] ∧ base ≤ a.block ∧ len ≤ cap ∧ cap ≤ maxLen ∧ m = (if spare a.block then cap else len) ∧
      x = (.slice ((List.range len).map D) ((List.range (m - len)).map fun j => D (len + j)), MemPlace.row a (m * fs.size) ++ (List.range m).flatMap Pl) ∧
      ∀ i, i < m → ∃ (ys : List (DataW H × List MemPlace)) (n : Nat), D i = .agg (ys.map (·.1)) ∧ Pl i = ys.flatMap (·.2) ∧ ys.length = fs.size ∧
        ∀ (j : Nat) (f : Field), fs[j]? = some f → ∃ (v : Value) (y : DataW H × List MemPlace), w.cell? (a.add (i * fs.size + j)) = some v ∧ ys[j]? = some y ∧ DataW.trod enc P w base spare held n f.type [v] = some y := by
  rcases open_slice ht h with h0 | ⟨a, len, cap, m, n, D, Pl, hcs, hb, hl, hm, hmm, hx, hi⟩
  · exact .inl h0
  · refine .inr ⟨a, len, cap, m, D, Pl, hcs, hb, hl, hm, hmm, by rw [hC] at hx; exact hx, fun i him => ?_⟩
    obtain ⟨cs', hc, ht'⟩ := hi i him
    rw [hC] at hc
    obtain ⟨ys, n', hn', hy, hlen, hyl, hf⟩ := DataW.trod_struct he ht'
    obtain ⟨_, hcl, hat⟩ := World.cells?_some hc
    simp only [Prod.mk.injEq] at hy
    refine ⟨ys, n', hy.1, hy.2, hyl, fun j f hj => ?_⟩
    obtain ⟨ho, hk⟩ := hone_of hone j f hj
    have hjl : j < fs.size := (Array.getElem?_eq_some_iff.1 hj).1
    have hcell := hat j hjl
    have hv : cs'[j]? = some (cs'[j]'(by omega)) := List.getElem?_eq_getElem (by omega)
    have h1 := hf j f hj
    rw [ho, hk] at h1
    have hone' : (cs'.drop j).take 1 = [cs'[j]'(by omega)] := by
      rw [List.drop_eq_getElem_cons (by omega)]
      rfl
    rw [hone'] at h1
    have hys : ys[j]? = some (ys[j]'(by omega)) := List.getElem?_eq_getElem (by omega)
    refine ⟨_, _, ?_, hys, h1.trans hys⟩
    rw [← Go.Deep.add_add, hcell, hv]
end

/-- A slice that reads as so many cells. -/
def Rd (w : World) (A : Option Addr) (n : Nat) (f : Nat → Value) : Prop :=
  0 < n → ∃ b off, A = some ⟨b, off, none⟩ ∧ b < w.heap.size ∧ ∀ j, j < n → w.cell? ⟨b, off + j, none⟩ = some (f j)
theorem Rd.keep {w w' : World} {A : Option Addr} {n : Nat} {f : Nat → Value} (h : Rd w A n f) (ht : Keeps w w') : Rd w' A n f := by
  intro hn
  obtain ⟨b, off, e, hb, hc⟩ := h hn
  refine ⟨b, off, e, by have := ht.size; omega, fun j hj => ?_⟩
  rw [← hc j hj]
  exact World.cell?_of_block (ht.block b hb (fun k => k))
theorem Rd.keepS {w w' : World} {A : Option Addr} {n : Nat} {f : Nat → Value} {S : Nat → Prop} (h : Rd w A n f) (ht : Touch S w w') (hs : ∀ b off, A = some ⟨b, off, none⟩ → ¬ S b) : Rd w' A n f := by
  intro hn
  obtain ⟨b, off, e, hb, hc⟩ := h hn
  refine ⟨b, off, e, by have := ht.size; omega, fun j hj => ?_⟩
  rw [← hc j hj]
  exact World.cell?_of_block (ht.block b hb (hs b off e))
theorem Rd.one {w : World} {A : Option Addr} {k n : Nat} {f : Nat → Value} (h : Rd w A n f) (hk : k < n) : ∃ b off, A = some ⟨b, off, none⟩ ∧ w.cell? ⟨b, off + k, none⟩ = some (f k) := by
  obtain ⟨b, off, e, _, hc⟩ := h (by omega)
  exact ⟨b, off, e, hc k hk⟩
theorem Rd.at_ {w : World} {A : Option Addr} {m k n : Nat} {f : Nat → Value} (h : Rd w A (m * n) f) (hk : k < m) (hn : 0 < n) :
    ∃ b off, A = some ⟨b, off, none⟩ ∧ ∀ j, j < n → w.cell? ⟨b, off + k * n + j, none⟩ = some (f (k * n + j)) := by
  have hm : (k + 1) * n ≤ m * n := Nat.mul_le_mul_right n hk
  rw [Nat.succ_mul] at hm
  obtain ⟨b, off, e, hb, hc⟩ := h (by omega)
  exact ⟨b, off, e, fun j hj => by rw [Nat.add_assoc]; exact hc (k * n + j) (by omega)⟩

/-- What the cell at an address holds. -/
def cellAt (w : World) (A : Option Addr) (j : Nat) : Value :=
  match A with
  | some a => (w.cell? (a.add j)).getD undef
  | none => undef
def boolOf : Value → Bool
  | .bool b => b
  | _ => false
theorem spot_of_cell {w : World} {a : Addr} {v : Value} (h : w.cell? a = some v) : a = ⟨a.block, a.off, none⟩ ∧ a.block < w.heap.size := by
  refine ⟨?_, block_lt_of_cell h⟩
  obtain ⟨b, off, s⟩ := a
  cases s with
  | none => rfl
  | some x =>
    unfold World.cell? at h
    split at h <;> simp at h
theorem add_zero_ (a : Addr) : a.add 0 = a := by unfold Addr.add; simp
theorem add_plain (b off j : Nat) : (⟨b, off, none⟩ : Addr).add j = ⟨b, off + j, none⟩ := by unfold Addr.add; split <;> simp_all
theorem rd_of {w : World} {a : Addr} {n : Nat} (h : ∀ j, j < n → ∃ v, w.cell? (a.add j) = some v) : Rd w (some a) n (cellAt w (some a)) := by
  intro hn
  obtain ⟨v, hv⟩ := h 0 hn
  rw [add_zero_] at hv
  obtain ⟨ha, hb⟩ := spot_of_cell hv
  refine ⟨a.block, a.off, by rw [← ha], hb, fun j hj => ?_⟩
  obtain ⟨v, hv⟩ := h j hj
  unfold cellAt
  simp only [hv, Option.getD_some]
  rw [← add_plain, ← ha]
  exact hv

/-- Integers of a kind. -/
def intF (k : IntKind) (L : Nat → Int) : Nat → Value := fun j => .int k (L j)
def InKind (k : IntKind) (L : Nat → Int) (n : Nat) : Prop := ∀ j, j < n → (Lit.int k (L j)).wf = true
theorem rd_ints {H : Type} {enc : TypeId × Value → H} {P : Program} {w : World} {t e : TypeId} {k : IntKind} {A : Option Addr} {len cap : Nat} {d : DataW H} {p : List MemPlace}
    (ht : P.underlying t = some (.slice e)) (he : P.underlying e = some (.int k)) (hc : P.cellsOf e = 1) (h : DataW.Trod enc P w 0 (fun _ => true) true t (.slice A len cap) d p) :
    ∃ L, Rd w A len (intF k L) ∧ InKind k L len ∧ len ≤ maxLen := by
  obtain ⟨fuel, hf⟩ := h
  rcases open_ints ht he hc hf with ⟨hcs, _⟩ | ⟨x, l, c, zs, hcs, _, hl, hm, hz, _, hcell, hwz⟩
  · simp [Value.cells] at hcs
    obtain ⟨rfl, rfl, rfl⟩ := hcs
    exact ⟨fun _ => 0, fun h => absurd h (by omega), fun j hj => absurd hj (by omega), by simp [maxLen]⟩
  · simp [Value.cells] at hcs
    obtain ⟨rfl, rfl, rfl⟩ := hcs
    have hz' : zs.length = cap := by simpa using hz
    refine ⟨fun j => zs.getD j 0, ?_, fun j hj => hwz _ ?_, by omega⟩
    · intro hn
      have h0 := hcell 0 (by omega)
      rw [add_zero_] at h0
      obtain ⟨ha, hb⟩ := spot_of_cell h0
      refine ⟨x.block, x.off, by rw [← ha], hb, fun j hj => ?_⟩
      have h1 := hcell j (by omega)
      rw [← add_plain, ← ha]
      exact h1
    · show zs.getD j 0 ∈ zs
      rw [List.getD_eq_getElem?_getD, List.getElem?_eq_getElem (by omega)]
      exact List.getElem_mem _

/-- Structs of one-cell fields: each cell reads as its field's type does. -/
theorem rd_structs {H : Type} {enc : TypeId × Value → H} {P : Program} {w : World} {t e : TypeId} {fs : Array Field} {A : Option Addr} {len cap : Nat} {d : DataW H} {p : List MemPlace}
    (ht : P.underlying t = some (.slice e)) (he : P.underlying e = some (.struct fs)) (hone : oneCellFields P fs = true) (hC : P.cellsOf e = fs.size)
    (h : DataW.Trod enc P w 0 (fun _ => true) true t (.slice A len cap) d p) :
    Rd w A (len * fs.size) (cellAt w A) ∧ len ≤ maxLen ∧ ∀ i, i < len → ∀ j f, fs[j]? = some f →
      ∃ (n : Nat) (y : DataW H × List MemPlace), DataW.trod enc P w 0 (fun _ => true) true n f.type [cellAt w A (i * fs.size + j)] = some y := by
  obtain ⟨fuel, hf⟩ := h
  rcases open_slice_fields ht he hone hC hf with ⟨hcs, _⟩ | ⟨a, l, c, m, D, Pl, hcs, _, hl, hm, hmm, _, hi⟩
  · simp [Value.cells] at hcs
    obtain ⟨rfl, rfl, rfl⟩ := hcs
    exact ⟨fun h => absurd h (by omega), by simp [maxLen], fun i hi => absurd hi (by omega)⟩
  · simp [Value.cells] at hcs
    obtain ⟨rfl, rfl, rfl⟩ := hcs
    simp only [if_true] at hmm
    subst hmm
    refine ⟨rd_of fun j hj => ?_, by omega, fun i hil j f hjf => ?_⟩
    · have hs : 0 < fs.size := by
        rcases Nat.eq_zero_or_pos fs.size with h0 | h0
        · rw [h0] at hj; omega
        · exact h0
      have hq : j / fs.size < len := (Nat.div_lt_iff_lt_mul hs).2 hj
      obtain ⟨ys, n, _, _, _, hfd⟩ := hi (j / fs.size) (by omega)
      have hr : j % fs.size < fs.size := Nat.mod_lt _ hs
      obtain ⟨v, y, hc, _⟩ := hfd (j % fs.size) fs[j % fs.size] (Array.getElem?_eq_getElem hr)
      rw [show j / fs.size * fs.size + j % fs.size = j from by rw [Nat.mul_comm]; exact Nat.div_add_mod _ _] at hc
      exact ⟨v, hc⟩
    · obtain ⟨ys, n, _, _, _, hfd⟩ := hi i (by omega)
      obtain ⟨v, y, hc, _, hy⟩ := hfd j f hjf
      refine ⟨n, y, ?_⟩
      unfold cellAt
      simp only [hc, Option.getD_some]
      exact hy

theorem int_of_trod {H : Type} {enc : TypeId × Value → H} {P : Program} {w : World} {t : TypeId} {k : IntKind} {v : Value} {n : Nat} {y : DataW H × List MemPlace}
    (ht : P.underlying t = some (.int k)) (h : DataW.trod enc P w 0 (fun _ => true) true n t [v] = some y) : v = .int k (intOf v) ∧ (Lit.int k (intOf v)).wf = true := by
  obtain ⟨m, hm, _, hw⟩ := DataW.trod_int ht h
  simp only [List.cons.injEq, and_true] at hm
  subst hm
  exact ⟨rfl, hw⟩
theorem bool_of_trod {H : Type} {enc : TypeId × Value → H} {P : Program} {w : World} {t : TypeId} {v : Value} {n : Nat} {y : DataW H × List MemPlace}
    (ht : P.underlying t = some .bool) (h : DataW.trod enc P w 0 (fun _ => true) true n t [v] = some y) : v = .bool (boolOf v) := by
  obtain ⟨m, hm, _⟩ := DataW.trod_bool ht h
  simp only [List.cons.injEq, and_true] at hm
  subst hm
  rfl
theorem Rd.congr {w : World} {A : Option Addr} {n : Nat} {f g : Nat → Value} (h : Rd w A n f) (hg : ∀ j, j < n → f j = g j) : Rd w A n g := by
  intro hn
  obtain ⟨b, off, e, hb, hc⟩ := h hn
  exact ⟨b, off, e, hb, fun j hj => by rw [hc j hj, hg j hj]⟩
theorem i64_bounds {n : Int} (h : (Lit.int .i64 n).wf = true) : -9223372036854775808 ≤ n ∧ n ≤ 9223372036854775807 := by
  simp [Lit.wf, IntKind.min, IntKind.max, IntKind.signed, IntKind.bits] at h
  exact ⟨by omega, by omega⟩
theorem u8_bounds {n : Int} (h : (Lit.int .u8 n).wf = true) : 0 ≤ n ∧ n ≤ 255 := by
  simp [Lit.wf, IntKind.min, IntKind.max, IntKind.signed, IntKind.bits] at h
  exact ⟨by omega, by omega⟩
theorem i32_bounds {n : Int} (h : (Lit.int .i32 n).wf = true) : -2147483648 ≤ n ∧ n ≤ 2147483647 := by
  simp [Lit.wf, IntKind.min, IntKind.max, IntKind.signed, IntKind.bits] at h
  exact ⟨by omega, by omega⟩
theorem i16_bounds {n : Int} (h : (Lit.int .i16 n).wf = true) : -32768 ≤ n ∧ n ≤ 32767 := by
  simp [Lit.wf, IntKind.min, IntKind.max, IntKind.signed, IntKind.bits] at h
  exact ⟨by omega, by omega⟩
theorem i8_bounds {n : Int} (h : (Lit.int .i8 n).wf = true) : -128 ≤ n ∧ n ≤ 127 := by
  simp [Lit.wf, IntKind.min, IntKind.max, IntKind.signed, IntKind.bits] at h
  exact ⟨by omega, by omega⟩
theorem u16_bounds {n : Int} (h : (Lit.int .u16 n).wf = true) : 0 ≤ n ∧ n ≤ 65535 := by
  simp [Lit.wf, IntKind.min, IntKind.max, IntKind.signed, IntKind.bits] at h
  exact ⟨by omega, by omega⟩

end Go.Proofs.Ytabfbgkablbeeaa

namespace Go.Proofs.Ytabfbgkablbeeaa
open Go.RowKit

theorem info_int : (Try.prog.info? 3).map (fun i => (i.zero, i.size, i.bytes)) = some (some (.int .i64 0), 1, 8) := by kernel_rfl
/-- Integers as cells. -/
def ints (l : List Int) : List Value := l.map (Value.int .i64)
theorem ints_len (l : List Int) : (ints l).length = l.length := by simp [ints]
theorem ints_snoc (l : List Int) (x : Int) : ints (l ++ [x]) = ints l ++ [.int .i64 x] := by simp [ints]
/-- A list of ints of the call's own. -/
def OwnInts (w : World) (base : Nat) (v : Value) (l : List Int) : Prop := w.ownsRow base 3 1 v l.length (ints l)
theorem OwnInts.nil_ (w : World) (base : Nat) : OwnInts w base (.slice none 0 0) [] := World.ownsRow_nil _ _ _ _
theorem OwnInts.form {w : World} {base : Nat} {v : Value} {l : List Int} (h : OwnInts w base v l) : ∃ ad cap, v = .slice ad l.length cap := by
  rcases h.2 with ⟨rfl, h0⟩ | ⟨g, cap, cur, rfl, _⟩
  · exact ⟨none, 0, by rw [h0]⟩
  · exact ⟨_, _, rfl⟩
theorem OwnInts.lt {w : World} {base : Nat} {v : Value} {l : List Int} (h : OwnInts w base v l) : ∀ k, v.ownBlock = some k → base ≤ k ∧ k < w.heap.size := World.ownsRow.lt h
theorem OwnInts.touch {w w' : World} {base : Nat} {v : Value} {l : List Int} {S : Nat → Prop} (h : OwnInts w base v l) (ht : Touch S w w') (hs : ∀ k, v.ownBlock = some k → ¬ S k) : OwnInts w' base v l := by
  unfold OwnInts at *
  refine ⟨h.1, ?_⟩
  rcases h.2 with hn | ⟨g, cap, cur, rfl, hb, hgg, rest⟩
  · exact .inl hn
  · refine .inr ⟨g, cap, cur, rfl, hb, ?_, rest⟩
    rw [ht.block g (Array.getElem?_eq_some_iff.1 hgg).1 (hs g rfl)]
    exact hgg
theorem OwnInts.grown {w w' : World} {base : Nat} {v : Value} {l : List Int} {row : Option Nat} (h : OwnInts w base v l) (hg : w.grownBy w' row) (hne : v.ownBlock = none ∨ v.ownBlock ≠ row) : OwnInts w' base v l := World.ownsRow.kept h hg hne
theorem OwnInts.alloc {w : World} {base : Nat} {v : Value} {l : List Int} (h : OwnInts w base v l) (o : Obj) : OwnInts (w.alloc o) base v l := World.ownsRow.alloc h o
theorem OwnInts.mono {w : World} {base base' : Nat} {v : Value} {l : List Int} (h : OwnInts w base v l) (hb : base' ≤ base) : OwnInts w base' v l := by
  refine ⟨h.1, ?_⟩
  rcases h.2 with hn | ⟨g, cap, cur, rfl, hbg, rest⟩
  · exact .inl hn
  · exact .inr ⟨g, cap, cur, rfl, Nat.le_trans hb hbg, rest⟩
theorem OwnInts.rd {w : World} {base : Nat} {ad : Option Addr} {cap : Nat} {l : List Int} (h : OwnInts w base (.slice ad l.length cap) l) :
    Rd w ad l.length (intF .i64 fun j => l.getD j 0) ∧ ∀ b off, ad = some ⟨b, off, none⟩ → base ≤ b ∧ b < w.heap.size := by
  refine ⟨fun hn => ?_, fun b off e => ?_⟩
  · rcases h.2 with ⟨_, h0⟩ | ⟨g, cap', cur, hv, hb, hgg, _⟩
    · omega
    · simp only [Value.slice.injEq] at hv
      obtain ⟨rfl, _, _⟩ := hv
      refine ⟨g, 0, rfl, (Array.getElem?_eq_some_iff.1 hgg).1, fun j hj => ?_⟩
      have hc := World.ownsRow.cells h (g := g) rfl j (.int .i64 (l.getD j 0)) (by simp [ints, hj])
      rw [add_plain] at hc
      exact hc
  · subst e
    exact World.ownsRow.lt h b rfl

/-- One integer more. -/
theorem app_int {ops : Array Oper} {rest : List Oper} {o : Oper} {a : Act} {Q : Exit → Act → World → Prop} {w : World} (hgd : o.guard = none) (s x : Operand)
    (ho : o.op = .call { callee := .builtin .append, args := #[s, x], argTypes := #[39, 39] })
    (base : Nat) (v : Value) (l : List Int) (hown : OwnInts w base v l) (hs : a.eval s = v) (N : Nat) (y : Int) (hx : a.eval x = .slice (some ⟨N, 0, none⟩) 1 1)
    (hc : w.cell? ⟨N, 0, none⟩ = some (.int .i64 y)) (hl : l.length ≤ 1000000) (hbase : base ≤ w.heap.size)
    (h : ∀ v' w', OwnInts w' base v' (l ++ [y]) → w.grownBy w' v.ownBlock → (v'.ownBlock = v.ownBlock ∨ v'.ownBlock = some w.heap.size) → wpList Try.prog ops Q rest (a.put o.dst v') w') :
    wpList Try.prog ops Q (o :: rest) a w := by
  obtain ⟨i0, hi, hz0, hz1, hz2⟩ := info_parts info_int
  refine wpList_append_own_at w hgd s x _ ho base 3 i0 (.int .i64 0) 1 8 Try.underlying39 hi hz0 hz1 hz2 rfl (by decide) v l.length (ints l) hs hown ⟨N, 0, none⟩ 1 1 [.int .i64 y] hx rfl ?_ ?_ ?_ ?_ hbase ?_
  · intro j u hu
    cases j with
    | zero => simp at hu; subst hu; rw [add_zero_]; exact hc
    | succ j => simp at hu
  · simp [Value.oneCell']
  · unfold maxLen; omega
  · omega
  · intro v' w' h1 h2 _ h4
    refine h v' w' ?_ h2 h4
    unfold OwnInts
    rw [ints_snoc, List.length_append]
    exact h1
theorem cell_new (w : World) (v : Value) (t : TypeId) (N : Nat) (h : w.heap.size = N) : (w.alloc (.cells #[v] t)).cell? ⟨N, 0, none⟩ = some v := by
  subst h; exact cell_of_row _ _ 0 _ _ _ (heap_alloc_new w _)

end Go.Proofs.Ytabfbgkablbeeaa
