/- Blocks of the call's own, by their cells as a list; a world is named. -/
import Derived.Test.YtnijlddmbemnoaaBase
import Derived.Handy
import Derived.Laws.Rows
namespace Go.Proofs.Ytnijlddmbemnoaa
open Go.RowKit

def bf (l : List Value) : Nat → Value := fun j => l.getD j undef
/-- Block b has just these cells; it may be written. -/
def BL (w : World) (b : Nat) (ty : TypeId) (l : List Value) : Prop := Blk w b ty l.length (bf l)
namespace BL
variable {w : World} {b : Nat} {ty : TypeId} {l : List Value}
theorem new (w : World) (ty : TypeId) (l : List Value) : BL (w.alloc (.cells l.toArray ty)) w.heap.size ty l :=
  Blk.made w l.length ty (bf l) l.toArray (by simp) (fun j hj => by simp [bf, hj])
theorem new1 (w : World) (ty : TypeId) (o : Obj) (l : List Value) (N : Nat) (h : w.heap.size = N) (ho : o = .cells l.toArray ty) : BL (w.alloc o) N ty l := by
  subst h; subst ho; exact new w ty l
theorem touch {S : Nat → Prop} {w' : World} (h : BL w b ty l) (ht : Touch S w w') (hs : ¬ S b) : BL w' b ty l := Blk.touch h ht hs
theorem keep {w' : World} (h : BL w b ty l) (ht : Keeps w w') : BL w' b ty l := Blk.touch h ht (fun h => h)
theorem alloc (h : BL w b ty l) (o : Obj) : BL (w.alloc o) b ty l := Blk.alloc h o
theorem drew (h : BL w b ty l) : BL w.drew b ty l := h
theorem drewN (n : Nat) (h : BL w b ty l) : BL (w.drewN n) b ty l := h
theorem other (h : BL w b ty l) {p : Addr} (hp : b ≠ p.block) (u : Value) : BL (w.setCell p u) b ty l := Blk.other h hp u
theorem lt (h : BL w b ty l) : b < w.heap.size := Blk.lt h
theorem set (h : BL w b ty l) (j : Nat) (v : Value) (hj' : Nat.ble (j + 1) l.length = true := by rfl) : BL (w.setCell ⟨b, j, none⟩ v) b ty (l.set j v) := by
  have h1 := Blk.set h j v
  have hj : j < l.length := Nat.le_of_ble_eq_true hj'
  unfold BL
  rw [List.length_set]
  refine h1.congr fun k hk => ?_
  unfold upd bf
  by_cases e : k = j
  · subst e; simp [hj]
  · rw [if_neg e]; simp [List.getElem?_set_ne (Ne.symm e)]
theorem c (h : BL w b ty l) (j : Nat) (v : Value) (hv : l[j]? = some v) : w.cell? ⟨b, j, none⟩ = some v := by
  have hj : j < l.length := by
    rcases Nat.lt_or_ge j l.length with h1 | h1
    · exact h1
    · rw [List.getElem?_eq_none h1] at hv; cases hv
  have := Blk.cell h hj
  rw [this]
  unfold bf
  rw [List.getD_eq_getElem?_getD, hv]
  rfl
theorem fz (h : BL w b ty l) (j : Nat) : w.frozen? ⟨b, j, none⟩ = false := Blk.frozen h j
end BL
/-- The world at a call is given a name. -/
theorem named {P : Program} {f : FuncId} {args : Array Value} {W : World} {R : Ending → World → Prop} (h : ∀ X, X = W → Calls P f args X R) : Calls P f args W R := h W rfl
theorem named_code {P : Program} {c : Code} {Q : Exit → Act → World → Prop} {a : Act} {W : World} (h : ∀ X, X = W → c.wp P Q a X) : c.wp P Q a W := h W rfl
theorem Keeps.new {w w1 w2 : World} {b : Nat} (h : Keeps w w1) (k : Only b w1 w2) (hb : w.heap.size ≤ b) : Keeps w w2 := Touch.new h k hb

theorem BL.heap {w : World} {b : Nat} {ty : TypeId} {l : List Value} (h : BL w b ty l) : w.heap[b]? = some (.cells l.toArray ty (0, 0)) := by
  have h1 : w.heap[b]? = _ := h
  rw [h1]
  congr 2
  apply Array.ext
  · simp
  · intro k h1 h2
    simp [bf]
theorem BL.setRow {w : World} {b : Nat} {ty : TypeId} {l : List Value} (h : BL w b ty l) (vs : List Value) : BL (w.setRow b vs.toArray) b ty vs := by
  have h1 := setRow_heap w b _ vs.toArray ty _ h.heap
  unfold BL Blk
  rw [h1]
  congr 2
  apply Array.ext
  · simp
  · intro k h1 h2
    simp [bf]
theorem Only.setRow (w : World) (b : Nat) (cs : Array Value) : Only b w (w.setRow b cs) :=
  ⟨rfl, rfl, rfl, by simp, fun k _ hn => setRow_other w b k cs hn⟩
section
variable {ops : Array Oper} {rest : List Oper} {a : Act} {w : World} {Q : Exit → Act → World → Prop} {o : Oper}
/-- A whole struct is stored into a block of the call's own. -/
theorem store_bl (hgd : o.guard = none) (ty : TypeId) (x y : Operand) (ho : o.op = .store ty x y) {b : Nat} {t : TypeId} {l : List Value} (hB : BL w b t l)
    (hx : a.eval x = .pointer (some ⟨b, 0, none⟩)) (vs : List Value) (hy : a.eval y = .agg vs.toArray) (hi : (Try.prog.info? ty).map (·.size) = some vs.length)
    (hl : l.length = vs.length) (h1 : vs.all (·.oneCell') = true)
    (h : ∀ X, BL X b t vs → Only b w X → wpList Try.prog ops Q rest (a.put o.dst undef) X) : wpList Try.prog ops Q (o :: rest) a w := by
  refine wpList_plain hgd fun K hK => ?_
  unfold Oper.wp execOp
  simp only [ho, hx, hy, Instr.storeAt, Instr.sureAddr, Sem.run_bind, Sem.run_pure, Result.andThen_ok,
    run_storeVar_row w b t ty l.toArray vs.toArray hB.heap (by simpa using hi) (by simpa using hl) (by simpa using h1)]
  exact hK _ _ (h _ (hB.setRow vs) (Only.setRow w b _))
/-- A whole struct is loaded. -/
theorem load_bl (hgd : o.guard = none) (ty : TypeId) (x : Operand) (ho : o.op = .load ty x) {b : Nat} {t : TypeId} {l : List Value} (hB : BL w b t l)
    (hx : a.eval x = .pointer (some ⟨b, 0, none⟩)) {fs : Array Field} (hu : Try.prog.underlying ty = some (.struct fs)) (hi : (Try.prog.info? ty).map (·.size) = some l.length)
    (h : wpList Try.prog ops Q rest (a.put o.dst (.agg l.toArray)) w) : wpList Try.prog ops Q (o :: rest) a w :=
  wpList_load_row hgd ty x ho b hx t l.toArray (0, 0) (.struct fs) hB.heap hu rfl (by simpa using hi) h
end

end Go.Proofs.Ytnijlddmbemnoaa
