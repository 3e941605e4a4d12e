/- General words for the walks: what a call leaves as it was (Touch), and a block of memory that is described by a function of the offset (Blk). -/
import Derived.Test.YtnijlddmbemnoaaRows
import Derived.WalkKit
import Derived.WalkSpells
import Derived.WalkLawsBesides
import Derived.Lib.Hide
namespace Go.Proofs.Ytnijlddmbemnoaa
open Go.RowKit

/-- What was there before, outside S, is as it was. -/
structure Touch (S : Nat → Prop) (w w' : World) : Prop where
  os : w'.os = w.os
  tape : w'.tape = w.tape
  output : w'.output = w.output
  size : w.heap.size ≤ w'.heap.size
  block : ∀ k, k < w.heap.size → ¬ S k → w'.heap[k]? = w.heap[k]?

namespace Touch
theorem refl (S : Nat → Prop) (w : World) : Touch S w w := ⟨rfl, rfl, rfl, Nat.le_refl _, fun _ _ _ => rfl⟩
theorem trans {S S' : Nat → Prop} {a b c : World} (h : Touch S a b) (k : Touch S' b c) (hs : ∀ x, S' x → x < a.heap.size → S x) : Touch S a c :=
  ⟨k.os.trans h.os, k.tape.trans h.tape, k.output.trans h.output, Nat.le_trans h.size k.size, fun i hi hn =>
    (k.block i (Nat.lt_of_lt_of_le hi h.size) (fun hx => hn (hs i hx hi))).trans (h.block i hi hn)⟩
theorem mono {S S' : Nat → Prop} {a b : World} (h : Touch S a b) (hs : ∀ x, S x → x < a.heap.size → S' x) : Touch S' a b :=
  ⟨h.os, h.tape, h.output, h.size, fun i hi hn => h.block i hi fun hx => hn (hs i hx hi)⟩
theorem drew {S : Nat → Prop} {a w : World} (h : Touch S a w) : Touch S a w.drew := ⟨h.os, h.tape, h.output, h.size, h.block⟩
theorem drewN {S : Nat → Prop} {a w : World} (n : Nat) (h : Touch S a w) : Touch S a (w.drewN n) := ⟨h.os, h.tape, h.output, h.size, h.block⟩
theorem alloc {S : Nat → Prop} {a w : World} (h : Touch S a w) (o : Obj) : Touch S a (w.alloc o) :=
  ⟨h.os, h.tape, h.output, by have := h.size; simp; omega, fun k hk hn => by
    rw [Below.heap_alloc _ _ _ (by have := h.size; omega)]; exact h.block k hk hn⟩
theorem setCell {S : Nat → Prop} {a w : World} (h : Touch S a w) {p : Addr} (hp : p.block < a.heap.size → S p.block) (u : Value) : Touch S a (w.setCell p u) :=
  ⟨h.os, h.tape, h.output, by have := h.size; simpa [World.setCell] using this, fun k hk hn => by
    have hne : k ≠ p.block := fun e => hn (by subst e; exact hp hk)
    rw [Below.heap_setCell _ _ _ _ hne]; exact h.block k hk hn⟩
theorem grown {S : Nat → Prop} {a w w' : World} {row : Option Nat} (h : Touch S a w) (hg : w.grownBy w' row) (hr : ∀ k, row = some k → k < a.heap.size → S k) : Touch S a w' :=
  ⟨hg.os.trans h.os, hg.tape.trans h.tape, hg.output.trans h.output, Nat.le_trans h.size hg.size, fun k hk hn => by
    rw [hg.block k (by have := h.size; omega) (fun e => hn (hr k e.symm hk))]; exact h.block k hk hn⟩
theorem below {S : Nat → Prop} {B : Nat} {a w : World} (h : Touch S a w) (hB : B ≤ a.heap.size) (hs : ∀ k, S k → B ≤ k) : Below B a w :=
  ⟨h.os, h.tape, h.output, h.size, fun k hk => h.block k (by omega) fun hx => by have := hs k hx; omega⟩
theorem ofBelow {S : Nat → Prop} {B : Nat} {a w : World} (h : Below B a w) (hs : ∀ k, B ≤ k → k < a.heap.size → S k) : Touch S a w :=
  ⟨h.os, h.tape, h.output, h.size, fun k hk hn => h.block k (by
    rcases Nat.lt_or_ge k B with h1 | h1
    · exact h1
    · exact absurd (hs k h1 hk) hn)⟩
end Touch

/-- Nothing that was there has turned. -/
abbrev Keeps (w w' : World) : Prop := Touch (fun _ => False) w w'
/-- Of what was there only block b may have turned. -/
abbrev Only (b : Nat) (w w' : World) : Prop := Touch (fun k => k = b) w w'

theorem Touch.only {b : Nat} {w w' : World} (h : Keeps w w') : Only b w w' := h.mono (fun _ k _ => k.elim)
theorem Only.refl (b : Nat) (w : World) : Only b w w := Touch.refl _ w
theorem Touch.set {b : Nat} {w w' : World} (h : Only b w w') (j : Nat) (v : Value) : Only b w (w'.setCell ⟨b, j, none⟩ v) := Touch.setCell h (fun _ => rfl) v
theorem Only.trans_ {b : Nat} {w w1 w2 : World} (h : Only b w w1) (k : Only b w1 w2) : Only b w w2 := Touch.trans h k (fun _ e _ => e)
theorem Touch.keep {b : Nat} {w w1 w2 : World} (h : Only b w w1) (k : Keeps w1 w2) : Only b w w2 := Touch.trans h k (fun _ e _ => e.elim)
theorem Keeps.trans {w w1 w2 : World} (h : Keeps w w1) (k : Keeps w1 w2) : Keeps w w2 := Touch.trans h k (fun _ e _ => e)
theorem Touch.new {b : Nat} {w w1 w2 : World} (h : Keeps w w1) (k : Only b w1 w2) (hb : w.heap.size ≤ b) : Keeps w w2 := Touch.trans h k (fun x e hx => by subst e; omega)

/-- Block b has n cells, cell j holds f j; it may be written. -/
def Blk (w : World) (b : Nat) (ty : TypeId) (n : Nat) (f : Nat → Value) : Prop :=
  w.heap[b]? = some (.cells (Array.ofFn (n := n) fun j => f j.val) ty (0, 0))

def upd (f : Nat → Value) (i : Nat) (v : Value) : Nat → Value := fun j => if j = i then v else f j

namespace Blk
variable {w : World} {b : Nat} {ty : TypeId} {n : Nat} {f : Nat → Value}
theorem lt (h : Blk w b ty n f) : b < w.heap.size := lt_of_block h
theorem cell (h : Blk w b ty n f) {j : Nat} (hj : j < n) : w.cell? ⟨b, j, none⟩ = some (f j) := by
  unfold Blk at h
  simp [World.cell?, h, hj]
theorem frozen (h : Blk w b ty n f) (j : Nat) : w.frozen? ⟨b, j, none⟩ = false := by
  unfold Blk at h
  simp [World.frozen?, h]
theorem of_heap {w' : World} (h : Blk w b ty n f) (he : w'.heap[b]? = w.heap[b]?) : Blk w' b ty n f := he.trans h
theorem touch {S : Nat → Prop} {w' : World} (h : Blk w b ty n f) (ht : Touch S w w') (hs : ¬ S b) : Blk w' b ty n f :=
  h.of_heap (ht.block b h.lt hs)
theorem below {B : Nat} {w' : World} (h : Blk w b ty n f) (ht : Below B w w') (hs : b < B) : Blk w' b ty n f :=
  h.of_heap (ht.block b hs)
theorem drew (h : Blk w b ty n f) : Blk w.drew b ty n f := h
theorem drewN (m : Nat) (h : Blk w b ty n f) : Blk (w.drewN m) b ty n f := h
theorem alloc (h : Blk w b ty n f) (o : Obj) : Blk (w.alloc o) b ty n f := h.of_heap (Below.heap_alloc _ _ _ h.lt)
theorem other (h : Blk w b ty n f) {p : Addr} (hp : b ≠ p.block) (u : Value) : Blk (w.setCell p u) b ty n f :=
  h.of_heap (Below.heap_setCell _ _ _ _ hp)
theorem congr (h : Blk w b ty n f) {g : Nat → Value} (hg : ∀ j, j < n → f j = g j) : Blk w b ty n g := by
  unfold Blk at *
  rw [h]
  have : (Array.ofFn (n := n) fun j => f j.val) = (Array.ofFn (n := n) fun j => g j.val) := by
    congr 1; funext j; exact hg j.val j.isLt
  rw [this]
theorem set (h : Blk w b ty n f) (j : Nat) (v : Value) : Blk (w.setCell ⟨b, j, none⟩ v) b ty n (upd f j v) := by
  have hlt := h.lt
  unfold Blk at *
  have h' : w.heap[b] = .cells (Array.ofFn (n := n) fun j => f j.val) ty (0, 0) := by simpa [Array.getElem?_eq_getElem hlt] using h
  show (w.heap.modify b _)[b]? = _
  rw [Array.getElem?_eq_getElem (by simpa using hlt), Array.getElem_modify_self, h']
  simp only [Option.isSome_none, Bool.false_eq_true, if_false]
  congr 2
  apply Array.ext
  · simp
  · intro k h1 h2
    simp only [Array.size_ofFn, Array.size_setIfInBounds] at h1 h2
    by_cases e : j = k
    · subst e; simp [upd]
    · rw [Array.getElem_setIfInBounds_ne (by simpa using h1) e]; simp [upd, Ne.symm e]
theorem made (w : World) (n : Nat) (ty : TypeId) (f : Nat → Value) (c : Array Value) (hs : c.size = n) (hc : ∀ j, j < n → c[j]? = some (f j)) :
    Blk (w.alloc (.cells c ty)) w.heap.size ty n f := by
  unfold Blk
  rw [heap_alloc_new]
  congr 2
  apply Array.ext
  · simp [hs]
  · intro k h1 h2
    have := hc k (by omega)
    rw [Array.getElem?_eq_getElem h1] at this
    simpa using this
end Blk
theorem cell_one_at (w : World) (v : Value) (t : TypeId) (N : Nat) (h : w.heap.size = N) (j : Nat) (u : Value) (hu : [v][j]? = some u) : (w.alloc (.cells #[v] t)).cell? ((⟨N, 0, none⟩ : Addr).add j) = some u := by
  subst h; exact cell_one_new w v t j u hu
theorem setRow_new (w : World) (z cs : Array Value) (t : TypeId) : (w.alloc (.cells z t)).setRow w.heap.size cs = w.alloc (.cells cs t) := by
  unfold World.setRow World.alloc
  congr 1
  apply Array.ext_getElem?
  intro i
  simp only [Array.getElem?_modify, Array.getElem?_push]
  by_cases h : w.heap.size = i
  · subst h; simp
  · rw [if_neg h, if_neg (Ne.symm h), if_neg (Ne.symm h)]
/-- A whole array is stored into the block that has just been made for it. -/
theorem run_store_new (P : Program) (w : World) (z cs : Array Value) (t : TypeId) (hs : z.size = cs.size) (h1 : ∀ v ∈ cs.toList, v.oneCell' = true) :
    Sem.run P (storeCells ⟨w.heap.size, 0, none⟩ cs.toList) (w.alloc (.cells z t)) = .ok () (w.alloc (.cells cs t)) := by
  rw [run_storeCells_at P w.heap.size 0 t cs.toList 0 z (w.alloc (.cells z t)) (heap_alloc_new w _) (by simp [hs]) h1]
  simp only [Nat.add_zero, Nat.zero_add, List.take_zero, List.nil_append, Array.length_toList]
  rw [List.drop_of_length_le (by simp [hs]), List.append_nil, Array.toArray_toList, setRow_new]
theorem upd_same (f : Nat → Value) (i : Nat) (v : Value) : upd f i v i = v := by simp [upd]
theorem upd_ne (f : Nat → Value) (i j : Nat) (v : Value) (h : j ≠ i) : upd f i v j = f j := by simp [upd, h]

end Go.Proofs.Ytnijlddmbemnoaa
