/- Lists of bytes that a call makes for itself: one list is appended to another. -/
import Derived.Test.YtabfbgkablbeeaaG14
import Derived.Laws.OwnMore
set_option linter.all false

namespace Go.Proofs.Ytabfbgkablbeeaa
open Go.RowKit

theorem info_u8 : (Try.prog.info? 5).map (fun i => (i.zero, i.size, i.bytes)) = some (some (.int .u8 0), 1, 1) := by kernel_rfl
def OwnB (w : World) (base : Nat) (v : Value) (l : List Int) : Prop := w.ownsRow base 5 1 v l.length (l.map (Value.int .u8))
theorem OwnB.form {w : World} {base : Nat} {v : Value} {l : List Int} (h : OwnB w base v l) : ∃ ad cap, v = .slice ad l.length cap := by
  rcases h.2 with ⟨rfl, h0⟩ | ⟨g, cap, cur, rfl, _⟩
  · exact ⟨none, 0, by rw [h0]⟩
  · exact ⟨_, _, rfl⟩
theorem OwnB.lt {w : World} {base : Nat} {v : Value} {l : List Int} (h : OwnB w base v l) : ∀ k, v.ownBlock = some k → base ≤ k ∧ k < w.heap.size := World.ownsRow.lt h
theorem OwnB.alloc {w : World} {base : Nat} {v : Value} {l : List Int} (h : OwnB w base v l) (o : Obj) : OwnB (w.alloc o) base v l := World.ownsRow.alloc h o
theorem OwnB.touch {w w' : World} {base : Nat} {v : Value} {l : List Int} {S : Nat → Prop} (h : OwnB w base v l) (ht : Touch S w w') (hs : ∀ k, v.ownBlock = some k → ¬ S k) : OwnB w' base v l := by
  unfold OwnB at *
  refine ⟨h.1, ?_⟩
  rcases h.2 with hn | ⟨g, cap, cur, rfl, hb, hgg, rest⟩
  · exact .inl hn
  · refine .inr ⟨g, cap, cur, rfl, hb, ?_, rest⟩
    rw [ht.block g (Array.getElem?_eq_some_iff.1 hgg).1 (hs g rfl)]
    exact hgg
theorem OwnB.rd {w : World} {base : Nat} {ad : Option Addr} {cap n : Nat} {l : List Int} (hn : l.length = n) (h : OwnB w base (.slice ad n cap) l) : Rd w ad n (intF .u8 fun j => l.getD j 0) := fun hn0 => by
  subst hn
  rcases h.2 with ⟨_, h0⟩ | ⟨g, cap', cur, hv, hb, hgg, _⟩
  · omega
  · simp only [Value.slice.injEq] at hv
    obtain ⟨rfl, _, _⟩ := hv
    refine ⟨g, 0, rfl, (Array.getElem?_eq_some_iff.1 hgg).1, fun j hj => ?_⟩
    have hc := World.ownsRow.cells h (g := g) rfl j (.int .u8 (l.getD j 0)) (by simp [hj])
    rw [add_plain] at hc
    exact hc
theorem ownb_new (w : World) (N : Nat) (hN : w.heap.size = N) : OwnB (w.alloc (.cells #[] 5)) N (.slice (some ⟨N, 0, none⟩) 0 0) [] := own_new w 5 1 N hN
theorem run_append_none_c {w : World} (base : Nat) (ty : TypeId) (v : Value) (n c : Nat) (xs : List Value) (hown : w.ownsRow base 5 1 v n xs) :
    (Builtin.append_ #[25, 25] ty #[v, .slice none 0 c]).run Try.prog w = .ok v w := by
  obtain ⟨i, hi, _⟩ := info_parts info_u8
  rcases hown.2 with ⟨rfl, rfl⟩ | ⟨g, cap, cur, rfl, _, _, hnc, _⟩
  · simp [Builtin.append_, run_underlying Try.underlying25, sizeOf, typeInfo, hi, Builtin.lenOf, Builtin.firstCells]
  · simp [Builtin.append_, run_underlying Try.underlying25, sizeOf, typeInfo, hi, Builtin.lenOf, Builtin.firstCells, hnc, storeCells]
theorem app_bytes {ops : Array Oper} {rest : List Oper} {o : Oper} {a : Act} {Q : Exit → Act → World → Prop} {w : World} (hgd : o.guard = none) (s x : Operand)
    (ho : o.op = .call { callee := .builtin .append, args := #[s, x], argTypes := #[25, 25] })
    (base : Nat) (v : Value) (l : List Int) (hown : OwnB w base v l) (hs : a.eval s = v) (Ro : Option Addr) (m c : Nat) (F : Nat → Int) (hx : a.eval x = .slice Ro m c)
    (hr : Rd w Ro m (intF .u8 F)) (hl : l.length + m ≤ 140737488355328) (hb : base ≤ w.heap.size)
    (h : ∀ v' w', OwnB w' base v' (l ++ (List.range m).map F) → w.grownBy w' v.ownBlock → wpList Try.prog ops Q rest (a.put o.dst v') w') :
    wpList Try.prog ops Q (o :: rest) a w := by
  cases Ro with
  | none =>
    have hm : m = 0 := by
      rcases Nat.eq_zero_or_pos m with h0 | h0
      · exact h0
      · obtain ⟨_, _, e, _⟩ := hr h0; cases e
    subst hm
    refine wpList_plain hgd fun K hK => ?_
    have hrun := run_append_none_c base o.type v l.length c _ hown
    unfold Oper.wp execOp
    simp only [ho, resolve, invoke, builtin, Sem.run_bind, Sem.run_pure, Result.andThen_ok, List.map_toArray, List.map_cons, List.map_nil, hs, hx, hrun]
    exact hK _ _ (h v w (by rw [List.range_zero, List.map_nil, List.append_nil]; exact hown) ⟨rfl, rfl, rfl, Nat.le_refl _, fun _ _ _ => rfl⟩)
  | some ad =>
    obtain ⟨i0, hi, hz0, hz1, hz2⟩ := info_parts info_u8
    refine wpList_append_own_at w hgd s x _ ho base 5 i0 (.int .u8 0) 1 1 Try.underlying25 hi hz0 hz1 hz2 rfl (by decide) v l.length (l.map (Value.int .u8)) hs hown ad m c ((List.range m).map (intF .u8 F)) hx (by simp) (fun j u hu => ?_) (fun u hu => ?_) (by unfold maxLen; omega) (by omega) hb ?_
    · have hj : j < m := by
        rcases Nat.lt_or_ge j m with h' | h'
        · exact h'
        · rw [List.getElem?_eq_none (by simpa using h')] at hu; cases hu
      simp [hj] at hu
      subst hu
      obtain ⟨b, off, e, _, hc⟩ := hr (by omega)
      cases e
      rw [add_plain]
      exact hc j hj
    · simp at hu
      obtain ⟨j, hj, rfl⟩ := hu
      rfl
    · intro v' w' h1 h2 _ _
      refine h v' w' ?_ h2
      unfold OwnB
      rw [List.length_append, List.length_map, List.length_range, List.map_append, List.map_map]
      exact h1

end Go.Proofs.Ytabfbgkablbeeaa
