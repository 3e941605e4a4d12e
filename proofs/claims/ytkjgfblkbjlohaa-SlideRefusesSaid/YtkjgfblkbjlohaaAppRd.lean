/- append of a slice that reads, inside a region that draws its order; a world inside such a region is given a name. -/
import Derived.Test.YtkjgfblkbjlohaaG35
import Derived.Test.YtkjgfblkbjlohaaG17
import Derived.Test.YtkjgfblkbjlohaaG13
set_option linter.all false

namespace Go.Proofs.Ytkjgfblkbjlohaa
open Go.RowKit

theorem named_any {P : Program} {md : Region.Mode} {ops : Array Oper} {Q : Exit → Act → World → Prop} {S : World → Prop} {n : Nat} {l : Array Bool} {a : Act} {W : World} (h : ∀ X, X = W → wpAnyH P md ops Q S n l a X) : wpAnyH P md ops Q S n l a W := h W rfl
section
variable {o : Oper} {a : Act} {w : World} {K : Act → World → Prop} {Q : Exit → Act → World → Prop}
theorem wp_app_rd (d : Option Nat) (hd : o.dst = d) (s x : Operand) {T E : TypeId} (ho : o.op = .call { callee := .builtin .append, args := #[s, x], argTypes := #[T, T] })
    {size bytes : Nat} {z : Value} (hT : Try.prog.underlying T = some (.slice E)) (hinfo : (Try.prog.info? E).map (fun i => (i.zero, i.size, i.bytes)) = some (some z, size, bytes)) (hzs : z.cells.size = size) (hsz : 0 < size)
    (base : Nat) (v : Value) (n : Nat) (xs : List Value) (hs : a.eval s = v) (hown : w.ownsRow base E size v n xs)
    (ad : Addr) (m c : Nat) (hx : a.eval x = .slice (some ad) m c) (F : Nat → Value) (hr : Rd w (some ad) (m * size) F) (h1 : ∀ j, j < m * size → (F j).oneCell' = true)
    (h63 : n + m ≤ 1000000) (hby : bytes ≤ 64) (hbase : base ≤ w.heap.size)
    (h : ∀ v' w', w'.ownsRow base E size v' (n + m) (xs ++ (List.range (m * size)).map F) → w.grownBy w' v.ownBlock → (v'.ownBlock = v.ownBlock ∨ v'.ownBlock = some w.heap.size) → K (a.put d v') w') : Oper.wp Try.prog o a w K Q := by
  subst hd
  obtain ⟨i0, hi, hz0, hz1, hz2⟩ := info_parts hinfo
  obtain ⟨v', w', hr', h2, h3, _, h5⟩ := run_append_own_at (P := Try.prog) (w := w) base T o.type E i0 z size bytes hT hi hz0 hz1 hz2 hzs hsz v n xs hown ad m c ((List.range (m * size)).map F) (by simp) (fun j u hu => by
      simp only [List.getElem?_map, Option.map_eq_some_iff] at hu
      obtain ⟨j', hj', rfl⟩ := hu
      obtain ⟨hj, e⟩ := List.getElem?_eq_some_iff.1 hj'
      simp only [List.getElem_range] at e
      subst e
      obtain ⟨b, off, e, _, hc⟩ := hr (by simp at hj; omega)
      simp only [Option.some.injEq] at e
      subst e
      rw [add_plain]
      exact hc j (by simpa using hj)) (fun u hu => by
      simp only [List.mem_map, List.mem_range] at hu
      obtain ⟨j, hj, rfl⟩ := hu
      exact h1 j hj) (by unfold maxLen; omega) (by
      have : (n + m) * bytes ≤ 1000000 * 64 := Nat.mul_le_mul h63 hby
      omega) hbase
  unfold Oper.wp execOp
  simp only [ho, resolve, invoke, builtin, Sem.run_bind, Sem.run_pure, Result.andThen_ok, List.map_toArray, List.map_cons, List.map_nil, hs, hx, hr']
  exact h _ _ h2 h3 h5
end
theorem spcs3 (L : Nat → Sp) : (List.range (3 * 3)).map (spF L) = spcs L 3 := rfl
theorem spF_one (L : Nat → Sp) (j : Nat) : (spF L j).oneCell' = true := by
  unfold spF
  split
  · rfl
  · split <;> rfl
theorem own_sp0 (T : TypeId) (w : World) (base N : Nat) (F : Nat → Sp) (hN : w.heap.size = N) (h : base ≤ N) : OwnSp T (w.alloc (.cells #[] T)) base (.slice (some ⟨N, 0, none⟩) 0 0) F 0 := by
  have := own_new w T 3 N hN
  unfold OwnSp
  refine ⟨this.1, ?_⟩
  rcases this.2 with h0 | ⟨g, cap, cur, e, h1, h2⟩
  · exact .inl h0
  · exact .inr ⟨g, cap, cur, e, by omega, h2⟩

end Go.Proofs.Ytkjgfblkbjlohaa
