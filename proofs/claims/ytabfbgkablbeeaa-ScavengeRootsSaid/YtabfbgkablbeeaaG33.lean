/- append of a list of the call's own to another; a struct stored, in a region that draws its order. -/
import Derived.Test.YtabfbgkablbeeaaG01
import Derived.Test.YtabfbgkablbeeaaG02
import Derived.Test.YtabfbgkablbeeaaG14
import Derived.Laws.OwnMore
import Derived.Laws.CopyRow
set_option linter.all false

namespace Go.Proofs.Ytabfbgkablbeeaa
namespace A5
open Go.RowKit

theorem getD_range (l : List Int) : (List.range l.length).map (fun j => l.getD j 0) = l := by
  apply List.ext_getElem?
  intro i
  rw [List.getElem?_map]
  rcases Nat.lt_or_ge i l.length with h | h
  · rw [List.getElem?_eq_getElem h, List.getElem?_range h]
    simp [List.getD_eq_getElem?_getD, List.getElem?_eq_getElem h]
  · rw [List.getElem?_eq_none h, List.getElem?_eq_none (by simpa using h)]
    rfl
theorem own_cases {w : World} {base : Nat} {v : Value} {l : List Int} (h : OwnInts w base v l) : (v = .slice none 0 0 ∧ l = []) ∨ ∃ g cap, v = .slice (some ⟨g, 0, none⟩) l.length cap ∧ l.length ≤ cap ∧ base ≤ g ∧ g < w.heap.size := by
  have hlt := h.lt
  rcases h.2 with ⟨rfl, h0⟩ | ⟨g, cap, cur, rfl, hb, hgg, hc, _⟩
  · exact .inl ⟨rfl, List.length_eq_zero_iff.1 h0⟩
  · exact .inr ⟨g, cap, rfl, hc, hb, (hlt g rfl).2⟩
theorem app_ints_run (w : World) (base : Nat) (v : Value) (l : List Int) (hown : OwnInts w base v l) (ad : Addr) (m c : Nat) (F : Nat → Int) (hr : Rd w (some ad) m (intF .i64 F)) (hl : l.length + m ≤ 1000000) (hb : base ≤ w.heap.size) (ty : TypeId) :
    ∃ v' w', (Builtin.append_ #[39, 39] ty #[v, .slice (some ad) m c]).run Try.prog w = .ok v' w' ∧ OwnInts w' base v' (l ++ (List.range m).map F) ∧ w.grownBy w' v.ownBlock ∧ (v'.ownBlock = v.ownBlock ∨ v'.ownBlock = some w.heap.size) := by
  obtain ⟨i0, hi, hz0, hz1, hz2⟩ := info_parts info_int
  obtain ⟨v', w', h1, h2, h3, _, h5⟩ := run_append_own_at (P := Try.prog) w base 39 ty 3 i0 (.int .i64 0) 1 8 Try.underlying39 hi hz0 hz1 hz2 rfl (by decide) v l.length (ints l) hown ad m c ((List.range m).map (intF .i64 F)) (by simp) (fun j u hu => by
    have hj : j < m := by
      rcases Nat.lt_or_ge j m with h' | h'
      · exact h'
      · rw [List.getElem?_eq_none (by simpa using h')] at hu; cases hu
    simp [hj] at hu
    subst hu
    obtain ⟨b, off, e, _, hc⟩ := hr (by omega)
    cases e
    rw [add_plain]
    exact hc j hj) (fun u hu => by
      simp at hu
      obtain ⟨j, hj, rfl⟩ := hu
      rfl) (by unfold maxLen; omega) (by omega) hb
  refine ⟨v', w', h1, ?_, h3, h5⟩
  unfold OwnInts
  rw [List.length_append, List.length_map, List.length_range, show ints (l ++ (List.range m).map F) = ints l ++ (List.range m).map (intF .i64 F) by simp [ints, intF, Function.comp_def]]
  exact h2
theorem own_empty (w : World) (base N : Nat) (hN : w.heap.size = N) (h : base ≤ N) : OwnInts (w.alloc (.cells #[] 3)) base (.slice (some ⟨N, 0, none⟩) 0 0) [] :=
  OwnInts.mono (own_new w 3 1 N hN : OwnInts (w.alloc (.cells #[] 3)) N (.slice (some ⟨N, 0, none⟩) 0 0) []) h
section
variable {o : Oper} {a : Act} {w : World} {K : Act → World → Prop} {Q : Exit → Act → World → Prop}
theorem wp_app_ints (s x : Operand) (ho : o.op = .call { callee := .builtin .append, args := #[s, x], argTypes := #[39, 39] }) (base : Nat) (v : Value) (l : List Int) (hown : OwnInts w base v l) (hs : a.eval s = v)
    (ad : Addr) (m c : Nat) (hx : a.eval x = .slice (some ad) m c) (F : Nat → Int) (hr : Rd w (some ad) m (intF .i64 F)) (hl : l.length + m ≤ 1000000) (hb : base ≤ w.heap.size)
    (h : ∀ v' w', OwnInts w' base v' (l ++ (List.range m).map F) → w.grownBy w' v.ownBlock → (v'.ownBlock = v.ownBlock ∨ v'.ownBlock = some w.heap.size) → K (a.put o.dst v') w') : Oper.wp Try.prog o a w K Q := by
  obtain ⟨v', w', hr', h2, h3, h5⟩ := app_ints_run w base v l hown ad m c F hr hl hb o.type
  unfold Oper.wp execOp
  simp only [ho, resolve, invoke, builtin, Sem.run_bind, Sem.run_pure, Result.andThen_ok, List.map_toArray, List.map_cons, List.map_nil, hs, hx, hr']
  exact h _ _ h2 h3 h5
theorem wp_app_own (d : Option Nat) (hd : o.dst = d) (s x : Operand) (ho : o.op = .call { callee := .builtin .append, args := #[s, x], argTypes := #[39, 39] }) (base : Nat) (v : Value) (l : List Int) (hown : OwnInts w base v l) (hs : a.eval s = v)
    (bx : Nat) (vx : Value) (lx : List Int) (hxo : OwnInts w bx vx lx) (hx : a.eval x = vx) (hl : l.length + lx.length ≤ 1000000) (hb : base ≤ w.heap.size)
    (h : ∀ v' w', OwnInts w' base v' (l ++ lx) → w.grownBy w' v.ownBlock → (v'.ownBlock = v.ownBlock ∨ v'.ownBlock = some w.heap.size) → K (a.put d v') w') : Oper.wp Try.prog o a w K Q := by
  subst hd
  rcases own_cases hxo with ⟨rfl, rfl⟩ | ⟨g, cap, rfl, hc, _, _⟩
  · obtain ⟨i0, hi, hz0, hz1, hz2⟩ := info_parts info_int
    have hr' := run_append_owned_none (P := Try.prog) (w := w) base 39 o.type 3 i0 1 Try.underlying39 hi v l.length (ints l) hown
    unfold Oper.wp execOp
    simp only [ho, resolve, invoke, builtin, Sem.run_bind, Sem.run_pure, Result.andThen_ok, List.map_toArray, List.map_cons, List.map_nil, hs, hx, hr']
    exact h _ _ (by rw [List.append_nil]; exact hown) ⟨rfl, rfl, rfl, Nat.le_refl _, fun _ _ _ => rfl⟩ (.inl rfl)
  · refine wp_app_ints s x ho base v l hown hs ⟨g, 0, none⟩ lx.length cap hx (fun j => lx.getD j 0) hxo.rd.1 hl hb ?_
    rw [getD_range]
    exact h
theorem wp_store_bl (ty : TypeId) (x y : Operand) (ho : o.op = .store ty x y) {b : Nat} {t : TypeId} {l : List Value} (hB : BL w b t l)
    (hx : a.eval x = .pointer (some ⟨b, 0, none⟩)) (vs : List Value) (hy : a.eval y = .agg vs.toArray) (hi : (Try.prog.info? ty).map (·.size) = some vs.length)
    (hl : l.length = vs.length) (h1 : vs.all (·.oneCell') = true)
    (h : ∀ X, BL X b t vs → Only b w X → K (a.put o.dst undef) X) : Oper.wp Try.prog o a w K Q := by
  unfold Oper.wp execOp
  simp only [ho, hx, hy, Instr.storeAt, Instr.sureAddr, Sem.run_bind, Sem.run_pure, Result.andThen_ok,
    run_storeVar_row w b t ty l.toArray vs.toArray hB.heap (by simpa using hi) (by simpa using hl) (by simpa using h1)]
  exact h _ (hB.setRow vs) (Only.setRow w b _)
end

section
variable {ops : Array Oper} {rest : List Oper} {a : Act} {w : World} {Q : Exit → Act → World → Prop} {o : Oper}
theorem run_storeVar_at (w : World) (g p : Nat) (t ty : TypeId) (cur cells : Array Value) (hg : w.heap[g]? = some (.cells cur t (0, 0))) (hi : (Try.prog.info? ty).map (·.size) = some cells.size)
    (hl : p + cells.size ≤ cur.size) (h1 : cells.all (·.oneCell') = true) :
    (storeVar ty ⟨g, p, none⟩ (.agg cells)).run Try.prog w = .ok () (w.setRow g (cur.toList.take p ++ cells.toList ++ cur.toList.drop (p + cells.size)).toArray) := by
  have := run_storeCells_at Try.prog g p t cells.toList 0 cur w hg (by simpa using hl) (fun v hv => (Array.all_eq_true_iff_forall_mem.1 h1) v (by simpa using hv))
  cases hq : Try.prog.info? ty with
  | none => simp [hq] at hi
  | some i =>
    have hs : cells.size = i.size := by simp [hq] at hi; omega
    simp only [Nat.add_zero, Array.length_toList] at this
    simp [storeVar, sizeOf, typeInfo, hq, Value.cells, hs, this]
/-- A struct is stored into a part of a block. -/
theorem store_at (hgd : o.guard = none) (ty : TypeId) (x y : Operand) (ho : o.op = .store ty x y) {b p : Nat} {t : TypeId} {l : List Value} (hB : BL w b t l)
    (hx : a.eval x = .pointer (some ⟨b, p, none⟩)) (vs l' : List Value) (hy : a.eval y = .agg vs.toArray) (hi : (Try.prog.info? ty).map (·.size) = some vs.length)
    (hl : p + vs.length ≤ l.length) (h1 : vs.all (·.oneCell') = true) (hl' : l' = l.take p ++ vs ++ l.drop (p + vs.length))
    (h : ∀ X, BL X b t l' → Only b w X → wpList Try.prog ops Q rest (a.put o.dst undef) X) : wpList Try.prog ops Q (o :: rest) a w := by
  refine wpList_plain hgd fun K hK => ?_
  unfold Oper.wp execOp
  simp only [ho, hx, hy, Instr.storeAt, Instr.sureAddr, Sem.run_bind, Sem.run_pure, Result.andThen_ok,
    run_storeVar_at w b p t ty l.toArray vs.toArray hB.heap (by simpa using hi) (by simpa using hl) (by simpa using h1)]
  refine hK _ _ (h _ ?_ (Only.setRow w b _))
  subst hl'
  have := hB.setRow (l.take p ++ vs ++ l.drop (p + vs.length))
  simpa using this
end
end A5

end Go.Proofs.Ytabfbgkablbeeaa
