/- Lists of integers that a call makes for itself: what is known of them; one more is appended. -/
import Derived.Test.YtnijlddmbemnoaaBase
import Derived.Test.YtnijlddmbemnoaaOpen
import Derived.Maps.AppendAt
namespace Go.Proofs.Ytnijlddmbemnoaa
open Go.RowKit

theorem info_int : (Try.prog.info? 3).map (fun i => (i.zero, i.size, i.bytes)) = some (some (.int .i64 0), 1, 8) := by kernel_rfl
/-- Integers as cells. -/
def ints (l : List Int) : List Value := l.map (Value.int .i64)
theorem ints_len (l : List Int) : (ints l).length = l.length := by simp [ints]
theorem ints_snoc (l : List Int) (x : Int) : ints (l ++ [x]) = ints l ++ [.int .i64 x] := by simp [ints]
/-- A list of ints of the call's own. -/
def OwnInts (w : World) (base : Nat) (v : Value) (l : List Int) : Prop := w.ownsRow base 3 1 v l.length (ints l)
theorem OwnInts.nil_ (w : World) (base : Nat) : OwnInts w base (.slice none 0 0) [] := World.ownsRow_nil _ _ _ _
theorem OwnInts.form {w : World} {base : Nat} {v : Value} {l : List Int} (h : OwnInts w base v l) : ∃ ad cap, v = .slice ad l.length cap := by
  rcases h.2 with ⟨rfl, h0⟩ | ⟨g, cap, cur, rfl, _⟩
  · exact ⟨none, 0, by rw [h0]⟩
  · exact ⟨_, _, rfl⟩
theorem OwnInts.lt {w : World} {base : Nat} {v : Value} {l : List Int} (h : OwnInts w base v l) : ∀ k, v.ownBlock = some k → base ≤ k ∧ k < w.heap.size := World.ownsRow.lt h
theorem OwnInts.touch {w w' : World} {base : Nat} {v : Value} {l : List Int} {S : Nat → Prop} (h : OwnInts w base v l) (ht : Touch S w w') (hs : ∀ k, v.ownBlock = some k → ¬ S k) : OwnInts w' base v l := by
  unfold OwnInts at *
  refine ⟨h.1, ?_⟩
  rcases h.2 with hn | ⟨g, cap, cur, rfl, hb, hgg, rest⟩
  · exact .inl hn
  · refine .inr ⟨g, cap, cur, rfl, hb, ?_, rest⟩
    rw [ht.block g (Array.getElem?_eq_some_iff.1 hgg).1 (hs g rfl)]
    exact hgg
theorem OwnInts.grown {w w' : World} {base : Nat} {v : Value} {l : List Int} {row : Option Nat} (h : OwnInts w base v l) (hg : w.grownBy w' row) (hne : v.ownBlock = none ∨ v.ownBlock ≠ row) : OwnInts w' base v l := World.ownsRow.kept h hg hne
theorem OwnInts.alloc {w : World} {base : Nat} {v : Value} {l : List Int} (h : OwnInts w base v l) (o : Obj) : OwnInts (w.alloc o) base v l := World.ownsRow.alloc h o
theorem OwnInts.mono {w : World} {base base' : Nat} {v : Value} {l : List Int} (h : OwnInts w base v l) (hb : base' ≤ base) : OwnInts w base' v l := by
  refine ⟨h.1, ?_⟩
  rcases h.2 with hn | ⟨g, cap, cur, rfl, hbg, rest⟩
  · exact .inl hn
  · exact .inr ⟨g, cap, cur, rfl, Nat.le_trans hb hbg, rest⟩
theorem OwnInts.rd {w : World} {base : Nat} {ad : Option Addr} {cap : Nat} {l : List Int} (h : OwnInts w base (.slice ad l.length cap) l) :
    Rd w ad l.length (intF .i64 fun j => l.getD j 0) ∧ ∀ b off, ad = some ⟨b, off, none⟩ → base ≤ b ∧ b < w.heap.size := by
  refine ⟨fun hn => ?_, fun b off e => ?_⟩
  · rcases h.2 with ⟨_, h0⟩ | ⟨g, cap', cur, hv, hb, hgg, _⟩
    · omega
    · simp only [Value.slice.injEq] at hv
      obtain ⟨rfl, _, _⟩ := hv
      refine ⟨g, 0, rfl, (Array.getElem?_eq_some_iff.1 hgg).1, fun j hj => ?_⟩
      have hc := World.ownsRow.cells h (g := g) rfl j (.int .i64 (l.getD j 0)) (by simp [ints, hj])
      rw [add_plain] at hc
      exact hc
  · subst e
    exact World.ownsRow.lt h b rfl

/-- One integer more. -/
theorem app_int {ops : Array Oper} {rest : List Oper} {o : Oper} {a : Act} {Q : Exit → Act → World → Prop} {w : World} (hgd : o.guard = none) (s x : Operand)
    (ho : o.op = .call { callee := .builtin .append, args := #[s, x], argTypes := #[50, 50] })
    (base : Nat) (v : Value) (l : List Int) (hown : OwnInts w base v l) (hs : a.eval s = v) (N : Nat) (y : Int) (hx : a.eval x = .slice (some ⟨N, 0, none⟩) 1 1)
    (hc : w.cell? ⟨N, 0, none⟩ = some (.int .i64 y)) (hl : l.length ≤ 1000000) (hbase : base ≤ w.heap.size)
    (h : ∀ v' w', OwnInts w' base v' (l ++ [y]) → w.grownBy w' v.ownBlock → (v'.ownBlock = v.ownBlock ∨ v'.ownBlock = some w.heap.size) → wpList Try.prog ops Q rest (a.put o.dst v') w') :
    wpList Try.prog ops Q (o :: rest) a w := by
  obtain ⟨i0, hi, hz0, hz1, hz2⟩ := info_parts info_int
  refine wpList_append_own_at w hgd s x _ ho base 3 i0 (.int .i64 0) 1 8 Try.underlying50 hi hz0 hz1 hz2 rfl (by decide) v l.length (ints l) hs hown ⟨N, 0, none⟩ 1 1 [.int .i64 y] hx rfl ?_ ?_ ?_ ?_ hbase ?_
  · intro j u hu
    cases j with
    | zero => simp at hu; subst hu; rw [add_zero_]; exact hc
    | succ j => simp at hu
  · simp [Value.oneCell']
  · unfold maxLen; omega
  · omega
  · intro v' w' h1 h2 _ h4
    refine h v' w' ?_ h2 h4
    unfold OwnInts
    rw [ints_snoc, List.length_append]
    exact h1
theorem cell_new (w : World) (v : Value) (t : TypeId) (N : Nat) (h : w.heap.size = N) : (w.alloc (.cells #[v] t)).cell? ⟨N, 0, none⟩ = some v := by
  subst h; exact cell_of_row _ _ 0 _ _ _ (heap_alloc_new w _)

end Go.Proofs.Ytnijlddmbemnoaa
