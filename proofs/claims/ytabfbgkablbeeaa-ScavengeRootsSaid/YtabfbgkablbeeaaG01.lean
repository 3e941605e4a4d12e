/- Blocks of the call's own, by their cells as a list; a world is named. -/
import Derived.Test.YtabfbgkablbeeaaRows
import Derived.WalkKit
import Derived.WalkSpells
import Derived.WalkLawsBesides
import Derived.Lib.Hide
import Derived.Handy
import Derived.Laws.Rows
set_option linter.all false

namespace Go.Proofs.Ytabfbgkablbeeaa
open Go.RowKit

/-- What was there before, outside S, is as it was. -/
structure Touch (S : Nat → Prop) (w w' : World) : Prop where
  os : w'.os = w.os
  tape : w'.tape = w.tape
  output : w'.output = w.output
  size : w.heap.size ≤ w'.heap.size
  block : ∀ k, k < w.heap.size → ¬ S k → w'.heap[k]? = w.heap[k]?

namespace Touch
theorem refl (S : Nat → Prop) (w : World) : Touch S w w := ⟨rfl, rfl, rfl, Nat.le_refl _, fun _ _ _ => rfl⟩
theorem trans {S S' : Nat → Prop} {a b c : World} (h : Touch S a b) (k : Touch S' b c) (hs : ∀ x, S' x → x < a.heap.size → S x) : Touch S a c :=
  ⟨k.os.trans h.os, k.tape.trans h.tape, k.output.trans h.output, Nat.le_trans h.size k.size, fun i hi hn =>
    (k.block i (Nat.lt_of_lt_of_le hi h.size) (fun hx => hn (hs i hx hi))).trans (h.block i hi hn)⟩
theorem mono {S S' : Nat → Prop} {a b : World} (h : Touch S a b) (hs : ∀ x, S x → x < a.heap.size → S' x) : Touch S' a b :=
  ⟨h.os, h.tape, h.output, h.size, fun i hi hn => h.block i hi fun hx => hn (hs i hx hi)⟩
theorem drew {S : Nat → Prop} {a w : World} (h : Touch S a w) : Touch S a w.drew := ⟨h.os, h.tape, h.output, h.size, h.block⟩
theorem drewN {S : Nat → Prop} {a w : World} (n : Nat) (h : Touch S a w) : Touch S a (w.drewN n) := ⟨h.os, h.tape, h.output, h.size, h.block⟩
theorem alloc {S : Nat → Prop} {a w : World} (h : Touch S a w) (o : Obj) : Touch S a (w.alloc o) :=
  ⟨h.os, h.tape, h.output, by have := h.size; simp; omega, fun k hk hn => by
    rw [Below.heap_alloc _ _ _ (by have := h.size; omega)]; exact h.block k hk hn⟩
theorem setCell {S : Nat → Prop} {a w : World} (h : Touch S a w) {p : Addr} (hp : p.block < a.heap.size → S p.block) (u : Value) : Touch S a (w.setCell p u) :=
  ⟨h.os, h.tape, h.output, by have := h.size; simpa [World.setCell] using this, fun k hk hn => by
    have hne : k ≠ p.block := fun e => hn (by subst e; exact hp hk)
    rw [Below.heap_setCell _ _ _ _ hne]; exact h.block k hk hn⟩
theorem grown {S : Nat → Prop} {a w w' : World} {row : Option Nat} (h : Touch S a w) (hg : w.grownBy w' row) (hr : ∀ k, row = some k → k < a.heap.size → S k) : Touch S a w' :=
  ⟨hg.os.trans h.os, hg.tape.trans h.tape, hg.output.trans h.output, Nat.le_trans h.size hg.size, fun k hk hn => by
    rw [hg.block k (by have := h.size; omega) (fun e => hn (hr k e.symm hk))]; exact h.block k hk hn⟩
theorem below {S : Nat → Prop} {B : Nat} {a w : World} (h : Touch S a w) (hB : B ≤ a.heap.size) (hs : ∀ k, S k → B ≤ k) : Below B a w :=
  ⟨h.os, h.tape, h.output, h.size, fun k hk => h.block k (by omega) fun hx => by have := hs k hx; omega⟩
theorem ofBelow {S : Nat → Prop} {B : Nat} {a w : World} (h : Below B a w) (hs : ∀ k, B ≤ k → k < a.heap.size → S k) : Touch S a w :=
  ⟨h.os, h.tape, h.output, h.size, fun k hk hn => h.block k (by
    rcases Nat.lt_or_ge k B with h1 | h1
    · exact h1
    · exact absurd (hs k h1 hk) hn)⟩
end Touch

/-- Nothing that was there has turned. -/
abbrev Keeps (w w' : World) : Prop := Touch (fun _ => False) w w'
/-- Of what was there only block b may have turned. -/
abbrev Only (b : Nat) (w w' : World) : Prop := Touch (fun k => k = b) w w'

theorem Touch.only {b : Nat} {w w' : World} (h : Keeps w w') : Only b w w' := h.mono (fun _ k _ => k.elim)
theorem Only.refl (b : Nat) (w : World) : Only b w w := Touch.refl _ w
theorem Touch.set {b : Nat} {w w' : World} (h : Only b w w') (j : Nat) (v : Value) : Only b w (w'.setCell ⟨b, j, none⟩ v) := Touch.setCell h (fun _ => rfl) v
theorem Only.trans_ {b : Nat} {w w1 w2 : World} (h : Only b w w1) (k : Only b w1 w2) : Only b w w2 := Touch.trans h k (fun _ e _ => e)
theorem Touch.keep {b : Nat} {w w1 w2 : World} (h : Only b w w1) (k : Keeps w1 w2) : Only b w w2 := Touch.trans h k (fun _ e _ => e.elim)
theorem Keeps.trans {w w1 w2 : World} (h : Keeps w w1) (k : Keeps w1 w2) : Keeps w w2 := Touch.trans h k (fun _ e _ => e)
theorem Touch.new {b : Nat} {w w1 w2 : World} (h : Keeps w w1) (k : Only b w1 w2) (hb : w.heap.size ≤ b) : Keeps w w2 := Touch.trans h k (fun x e hx => by subst e; omega)

/-- Block b has n cells, cell j holds f j; it may be written. -/
def Blk (w : World) (b : Nat) (ty : TypeId) (n : Nat) (f : Nat → Value) : Prop :=
  w.heap[b]? = some (.cells (Array.ofFn (n := n) fun j => f j.val) ty (0, 0))

def upd (f : Nat → Value) (i : Nat) (v : Value) : Nat → Value := fun j => if j = i then v else f j

namespace Blk
variable {w : World} {b : Nat} {ty : TypeId} {n : Nat} {f : Nat → Value}
theorem lt (h : Blk w b ty n f) : b < w.heap.size := lt_of_block h
theorem cell (h : Blk w b ty n f) {j : Nat} (hj : j < n) : w.cell? ⟨b, j, none⟩ = some (f j) := by
  unfold Blk at h
  simp [World.cell?, h, hj]
theorem frozen (h : Blk w b ty n f) (j : Nat) : w.frozen? ⟨b, j, none⟩ = false := by
  unfold Blk at h
  simp [World.frozen?, h]
theorem of_heap {w' : World} (h : Blk w b ty n f) (he : w'.heap[b]? = w.heap[b]?) : Blk w' b ty n f := he.trans h
theorem touch {S : Nat → Prop} {w' : World} (h : Blk w b ty n f) (ht : Touch S w w') (hs : ¬ S b) : Blk w' b ty n f :=
  h.of_heap (ht.block b h.lt hs)
theorem below {B : Nat} {w' : World} (h : Blk w b ty n f) (ht : Below B w w') (hs : b < B) : Blk w' b ty n f :=
  h.of_heap (ht.block b hs)
theorem drew (h : Blk w b ty n f) : Blk w.drew b ty n f := h
theorem drewN (m : Nat) (h : Blk w b ty n f) : Blk (w.drewN m) b ty n f := h
theorem alloc (h : Blk w b ty n f) (o : Obj) : Blk (w.alloc o) b ty n f := h.of_heap (Below.heap_alloc _ _ _ h.lt)
theorem other (h : Blk w b ty n f) {p : Addr} (hp : b ≠ p.block) (u : Value) : Blk (w.setCell p u) b ty n f :=
  h.of_heap (Below.heap_setCell _ _ _ _ hp)
theorem congr (h : Blk w b ty n f) {g : Nat → Value} (hg : ∀ j, j < n → f j = g j) : Blk w b ty n g := by
  unfold Blk at *
  rw [h]
  have : (Array.ofFn (n := n) fun j => f j.val) = (Array.ofFn (n := n) fun j => g j.val) := by
    congr 1; funext j; exact hg j.val j.isLt
  rw [this]
theorem set (h : Blk w b ty n f) (j : Nat) (v : Value) : Blk (w.setCell ⟨b, j, none⟩ v) b ty n (upd f j v) := by
  have hlt := h.lt
  unfold Blk at *
  have h' : w.heap[b] = .cells (Array.ofFn (n := n) fun j => f j.val) ty (0, 0) := by simpa [Array.getElem?_eq_getElem hlt] using h
  show (w.heap.modify b _)[b]? = _
  rw [Array.getElem?_eq_getElem (by simpa using hlt), Array.getElem_modify_self, h']
  simp only [Option.isSome_none, Bool.false_eq_true, if_false]
  congr 2
  apply Array.ext
  · simp
  · intro k h1 h2
    simp only [Array.size_ofFn, Array.size_setIfInBounds] at h1 h2
    by_cases e : j = k
    · subst e; simp [upd]
    · rw [Array.getElem_setIfInBounds_ne (by simpa using h1) e]; simp [upd, Ne.symm e]
theorem made (w : World) (n : Nat) (ty : TypeId) (f : Nat → Value) (c : Array Value) (hs : c.size = n) (hc : ∀ j, j < n → c[j]? = some (f j)) :
    Blk (w.alloc (.cells c ty)) w.heap.size ty n f := by
  unfold Blk
  rw [heap_alloc_new]
  congr 2
  apply Array.ext
  · simp [hs]
  · intro k h1 h2
    have := hc k (by omega)
    rw [Array.getElem?_eq_getElem h1] at this
    simpa using this
end Blk
theorem cell_one_at (w : World) (v : Value) (t : TypeId) (N : Nat) (h : w.heap.size = N) (j : Nat) (u : Value) (hu : [v][j]? = some u) : (w.alloc (.cells #[v] t)).cell? ((⟨N, 0, none⟩ : Addr).add j) = some u := by
  subst h; exact cell_one_new w v t j u hu
theorem setRow_new (w : World) (z cs : Array Value) (t : TypeId) : (w.alloc (.cells z t)).setRow w.heap.size cs = w.alloc (.cells cs t) := by
  unfold World.setRow World.alloc
  congr 1
  apply Array.ext_getElem?
  intro i
  simp only [Array.getElem?_modify, Array.getElem?_push]
  by_cases h : w.heap.size = i
  · subst h; simp
  · rw [if_neg h, if_neg (Ne.symm h), if_neg (Ne.symm h)]
/-- A whole array is stored into the block that has just been made for it. -/
theorem run_store_new (P : Program) (w : World) (z cs : Array Value) (t : TypeId) (hs : z.size = cs.size) (h1 : ∀ v ∈ cs.toList, v.oneCell' = true) :
    Sem.run P (storeCells ⟨w.heap.size, 0, none⟩ cs.toList) (w.alloc (.cells z t)) = .ok () (w.alloc (.cells cs t)) := by
  rw [run_storeCells_at P w.heap.size 0 t cs.toList 0 z (w.alloc (.cells z t)) (heap_alloc_new w _) (by simp [hs]) h1]
  simp only [Nat.add_zero, Nat.zero_add, List.take_zero, List.nil_append, Array.length_toList]
  rw [List.drop_of_length_le (by simp [hs]), List.append_nil, Array.toArray_toList, setRow_new]
theorem upd_same (f : Nat → Value) (i : Nat) (v : Value) : upd f i v i = v := by simp [upd]
theorem upd_ne (f : Nat → Value) (i j : Nat) (v : Value) (h : j ≠ i) : upd f i v j = f j := by simp [upd, h]

end Go.Proofs.Ytabfbgkablbeeaa

namespace Go.Proofs.Ytabfbgkablbeeaa
open Go.RowKit

def bf (l : List Value) : Nat → Value := fun j => l.getD j undef
/-- Block b has just these cells; it may be written. -/
def BL (w : World) (b : Nat) (ty : TypeId) (l : List Value) : Prop := Blk w b ty l.length (bf l)
namespace BL
variable {w : World} {b : Nat} {ty : TypeId} {l : List Value}
theorem new (w : World) (ty : TypeId) (l : List Value) : BL (w.alloc (.cells l.toArray ty)) w.heap.size ty l :=
  Blk.made w l.length ty (bf l) l.toArray (by simp) (fun j hj => by simp [bf, hj])
theorem new1 (w : World) (ty : TypeId) (o : Obj) (l : List Value) (N : Nat) (h : w.heap.size = N) (ho : o = .cells l.toArray ty) : BL (w.alloc o) N ty l := by
  subst h; subst ho; exact new w ty l
theorem touch {S : Nat → Prop} {w' : World} (h : BL w b ty l) (ht : Touch S w w') (hs : ¬ S b) : BL w' b ty l := Blk.touch h ht hs
theorem keep {w' : World} (h : BL w b ty l) (ht : Keeps w w') : BL w' b ty l := Blk.touch h ht (fun h => h)
theorem alloc (h : BL w b ty l) (o : Obj) : BL (w.alloc o) b ty l := Blk.alloc h o
theorem drew (h : BL w b ty l) : BL w.drew b ty l := h
theorem drewN (n : Nat) (h : BL w b ty l) : BL (w.drewN n) b ty l := h
theorem other (h : BL w b ty l) {p : Addr} (hp : b ≠ p.block) (u : Value) : BL (w.setCell p u) b ty l := Blk.other h hp u
theorem lt (h : BL w b ty l) : b < w.heap.size := Blk.lt h
theorem set (h : BL w b ty l) (j : Nat) (v : Value) (hj' : Nat.ble (j + 1) l.length = true := by rfl) : BL (w.setCell ⟨b, j, none⟩ v) b ty (l.set j v) := by
  have h1 := Blk.set h j v
  have hj : j < l.length := Nat.le_of_ble_eq_true hj'
  unfold BL
  rw [List.length_set]
  refine h1.congr fun k hk => ?_
  unfold upd bf
  by_cases e : k = j
  · subst e; simp [hj]
  · rw [if_neg e]; simp [List.getElem?_set_ne (Ne.symm e)]
theorem c (h : BL w b ty l) (j : Nat) (v : Value) (hv : l[j]? = some v) : w.cell? ⟨b, j, none⟩ = some v := by
  have hj : j < l.length := by
    rcases Nat.lt_or_ge j l.length with h1 | h1
    · exact h1
    · rw [List.getElem?_eq_none h1] at hv; cases hv
  have := Blk.cell h hj
  rw [this]
  unfold bf
  rw [List.getD_eq_getElem?_getD, hv]
  rfl
theorem fz (h : BL w b ty l) (j : Nat) : w.frozen? ⟨b, j, none⟩ = false := Blk.frozen h j
end BL
/-- The world at a call is given a name. -/
theorem named {P : Program} {f : FuncId} {args : Array Value} {W : World} {R : Ending → World → Prop} (h : ∀ X, X = W → Calls P f args X R) : Calls P f args W R := h W rfl
theorem named_code {P : Program} {c : Code} {Q : Exit → Act → World → Prop} {a : Act} {W : World} (h : ∀ X, X = W → c.wp P Q a X) : c.wp P Q a W := h W rfl
theorem Keeps.new {w w1 w2 : World} {b : Nat} (h : Keeps w w1) (k : Only b w1 w2) (hb : w.heap.size ≤ b) : Keeps w w2 := Touch.new h k hb

theorem BL.heap {w : World} {b : Nat} {ty : TypeId} {l : List Value} (h : BL w b ty l) : w.heap[b]? = some (.cells l.toArray ty (0, 0)) := by
  have h1 : w.heap[b]? = _ := h
  rw [h1]
  congr 2
  apply Array.ext
  · simp
  · intro k h1 h2
    simp [bf]
theorem BL.setRow {w : World} {b : Nat} {ty : TypeId} {l : List Value} (h : BL w b ty l) (vs : List Value) : BL (w.setRow b vs.toArray) b ty vs := by
  have h1 := setRow_heap w b _ vs.toArray ty _ h.heap
  unfold BL Blk
  rw [h1]
  congr 2
  apply Array.ext
  · simp
  · intro k h1 h2
    simp [bf]
theorem Only.setRow (w : World) (b : Nat) (cs : Array Value) : Only b w (w.setRow b cs) :=
  ⟨rfl, rfl, rfl, by simp, fun k _ hn => setRow_other w b k cs hn⟩
section
variable {ops : Array Oper} {rest : List Oper} {a : Act} {w : World} {Q : Exit → Act → World → Prop} {o : Oper}
/-- A whole struct is stored into a block of the call's own. -/
theorem store_bl (hgd : o.guard = none) (ty : TypeId) (x y : Operand) (ho : o.op = .store ty x y) {b : Nat} {t : TypeId} {l : List Value} (hB : BL w b t l)
    (hx : a.eval x = .pointer (some ⟨b, 0, none⟩)) (vs : List Value) (hy : a.eval y = .agg vs.toArray) (hi : (Try.prog.info? ty).map (·.size) = some vs.length)
    (hl : l.length = vs.length) (h1 : vs.all (·.oneCell') = true)
    (h : ∀ X, BL X b t vs → Only b w X → wpList Try.prog ops Q rest (a.put o.dst undef) X) : wpList Try.prog ops Q (o :: rest) a w := by
  refine wpList_plain hgd fun K hK => ?_
  unfold Oper.wp execOp
  simp only [ho, hx, hy, Instr.storeAt, Instr.sureAddr, Sem.run_bind, Sem.run_pure, Result.andThen_ok,
    run_storeVar_row w b t ty l.toArray vs.toArray hB.heap (by simpa using hi) (by simpa using hl) (by simpa using h1)]
  exact hK _ _ (h _ (hB.setRow vs) (Only.setRow w b _))
/-- A whole struct is loaded. -/
theorem load_bl (hgd : o.guard = none) (ty : TypeId) (x : Operand) (ho : o.op = .load ty x) {b : Nat} {t : TypeId} {l : List Value} (hB : BL w b t l)
    (hx : a.eval x = .pointer (some ⟨b, 0, none⟩)) {fs : Array Field} (hu : Try.prog.underlying ty = some (.struct fs)) (hi : (Try.prog.info? ty).map (·.size) = some l.length)
    (h : wpList Try.prog ops Q rest (a.put o.dst (.agg l.toArray)) w) : wpList Try.prog ops Q (o :: rest) a w :=
  wpList_load_row hgd ty x ho b hx t l.toArray (0, 0) (.struct fs) hB.heap hu rfl (by simpa using hi) h
end

end Go.Proofs.Ytabfbgkablbeeaa
