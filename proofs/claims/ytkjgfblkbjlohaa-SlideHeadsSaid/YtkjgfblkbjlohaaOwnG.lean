/- Own rows of elements of any size: each element has its cells. -/
import Derived.Test.YtkjgfblkbjlohaaG13
set_option linter.all false


namespace Go.Proofs.Ytkjgfblkbjlohaa
open Go.RowKit

theorem flat_get {α : Type} {E : α → List Value} {sz : Nat} (hE : ∀ x, (E x).length = sz) : ∀ (l : List α) (i j : Nat) (a : α) (x : Value), l[i]? = some a → (E a)[j]? = some x → (l.flatMap E)[i * sz + j]? = some x
  | [], i, _, _, _, h, _ => by simp at h
  | b :: l, 0, j, a, x, h, hx => by
    simp only [List.getElem?_cons_zero, Option.some.injEq] at h
    subst h
    rw [List.flatMap_cons, Nat.zero_mul, Nat.zero_add]
    have hj := (List.getElem?_eq_some_iff.1 hx).1
    rw [List.getElem?_append_left hj]
    exact hx
  | b :: l, i + 1, j, a, x, h, hx => by
    rw [List.getElem?_cons_succ] at h
    rw [List.flatMap_cons]
    have e : (i + 1) * sz + j = sz + (i * sz + j) := by rw [Nat.succ_mul]; omega
    rw [e, List.getElem?_append_right (by rw [hE]; omega), hE, Nat.add_sub_cancel_left]
    exact flat_get hE l i j a x h hx
def OwnG {α : Type} (T : TypeId) (sz : Nat) (E : α → List Value) (w : World) (base : Nat) (v : Value) (l : List α) : Prop := w.ownsRow base T sz v l.length (l.flatMap E)
namespace OwnG
variable {α : Type} {T : TypeId} {sz : Nat} {E : α → List Value} {w w' : World} {base : Nat} {v : Value} {l : List α}
theorem nil_ (T : TypeId) (sz : Nat) (E : α → List Value) (w : World) (base : Nat) : OwnG T sz E w base (.slice none 0 0) [] := World.ownsRow_nil _ _ _ _
theorem form (h : OwnG T sz E w base v l) : ∃ ad cap, v = .slice ad l.length cap := by
  rcases h.2 with ⟨rfl, h0⟩ | ⟨g, cap, cur, rfl, _⟩
  · exact ⟨none, 0, by rw [h0]⟩
  · exact ⟨_, _, rfl⟩
theorem lt (h : OwnG T sz E w base v l) : ∀ k, v.ownBlock = some k → base ≤ k ∧ k < w.heap.size := World.ownsRow.lt h
theorem touch {S : Nat → Prop} (h : OwnG T sz E w base v l) (ht : Touch S w w') (hs : ∀ k, v.ownBlock = some k → ¬ S k) : OwnG T sz E w' base v l := by
  unfold OwnG at *
  refine ⟨h.1, ?_⟩
  rcases h.2 with hn | ⟨g, cap, cur, rfl, hb, hgg, rest⟩
  · exact .inl hn
  · refine .inr ⟨g, cap, cur, rfl, hb, ?_, rest⟩
    rw [ht.block g (Array.getElem?_eq_some_iff.1 hgg).1 (hs g rfl)]
    exact hgg
theorem keep (h : OwnG T sz E w base v l) (ht : Keeps w w') : OwnG T sz E w' base v l := h.touch ht (fun _ _ h => h)
theorem alloc (h : OwnG T sz E w base v l) (o : Obj) : OwnG T sz E (w.alloc o) base v l := World.ownsRow.alloc h o
theorem at_ {ad : Option Addr} {n cap : Nat} (hE : ∀ x, (E x).length = sz) (h : OwnG T sz E w base (.slice ad n cap) l) {i : Nat} {a : α} (hi : l[i]? = some a) :
    ∃ b off, ad = some ⟨b, off, none⟩ ∧ base ≤ b ∧ b < w.heap.size ∧ ∀ j x, (E a)[j]? = some x → w.cell? ⟨b, off + i * sz + j, none⟩ = some x := by
  rcases h.2 with ⟨hv, h0⟩ | ⟨g, cap', cur, hv, hb, hgg, h1, h2, h3⟩
  · have := (List.getElem?_eq_some_iff.1 hi).1
    have hl : l.length = 0 := h0
    omega
  · simp only [Value.slice.injEq] at hv
    obtain ⟨rfl, rfl, rfl⟩ := hv
    refine ⟨g, 0, rfl, hb, (Array.getElem?_eq_some_iff.1 hgg).1, fun j x hx => ?_⟩
    have hc := World.ownsRow.cells h (g := g) rfl (i * sz + j) x (flat_get hE l i j a x hi hx)
    rw [add_plain, ← Nat.add_assoc] at hc
    exact hc
end OwnG
/-- One element more. -/
theorem app_g {α : Type} {T S : TypeId} {sz by_ : Nat} {z : Value} {E : α → List Value} (hE : ∀ x, (E x).length = sz) (h1c : ∀ x, ∀ u, u ∈ E x → u.oneCell' = true) (hsz : 0 < sz) (hby : by_ ≤ 1000) (hzc : z.cells.size = sz) (hS : Try.prog.underlying S = some (.slice T)) (info : (Try.prog.info? T).map (fun i => (i.zero, i.size, i.bytes)) = some (some z, sz, by_))
    {ops : Array Oper} {rest : List Oper} {o : Oper} {a : Act} {Q : Exit → Act → World → Prop} {w : World} (hgd : o.guard = none) (s x : Operand)
    (ho : o.op = .call { callee := .builtin .append, args := #[s, x], argTypes := #[S, S] })
    (base : Nat) (v : Value) (l : List α) (y : α) (hown : OwnG T sz E w base v l) (hs : a.eval s = v) (N : Nat) (hx : a.eval x = .slice (some ⟨N, 0, none⟩) 1 1)
    (hc : ∀ j u, (E y)[j]? = some u → w.cell? ⟨N, j, none⟩ = some u) (hl : l.length ≤ 1000000) (hbase : base ≤ w.heap.size)
    (h : ∀ v' w', OwnG T sz E w' base v' (l ++ [y]) → w.grownBy w' v.ownBlock → (v'.ownBlock = v.ownBlock ∨ v'.ownBlock = some w.heap.size) → wpList Try.prog ops Q rest (a.put o.dst v') w') :
    wpList Try.prog ops Q (o :: rest) a w := by
  obtain ⟨i0, hi, hz0, hz1, hz2⟩ := info_parts info
  refine wpList_append_own_at w hgd s x _ ho base T i0 _ sz by_ hS hi hz0 hz1 hz2 hzc hsz v l.length (l.flatMap E) hs hown ⟨N, 0, none⟩ 1 1 (E y) hx (by rw [hE, Nat.one_mul]) ?_ (h1c y) ?_ ?_ hbase ?_
  · intro j u hu
    rw [add_plain, Nat.zero_add]
    exact hc j u hu
  · unfold maxLen; omega
  · have : (l.length + 1) * by_ ≤ 1000001 * 1000 := Nat.mul_le_mul (by omega) hby
    omega
  · intro v' w' h1 h2 _ h4
    refine h v' w' ?_ h2 h4
    unfold OwnG
    rw [List.flatMap_append, List.flatMap_cons, List.flatMap_nil, List.append_nil, List.length_append]
    exact h1

end Go.Proofs.Ytkjgfblkbjlohaa
