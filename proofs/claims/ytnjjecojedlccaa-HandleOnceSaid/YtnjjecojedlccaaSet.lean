/- A map from ints to bools that the call itself has made: what it holds, as a function. -/
import Derived.Test.YtnjjecojedlccaaOpen
import Derived.Maps.OwnSet
import Derived.Maps.RangeWalk
namespace Go.Proofs.Ytnjjecojedlccaa
open Go.RowKit
open Go.Maps (Keyed)

theorem und_int : Try.prog.underlying 3 = some (.int .i64) := by kernel_rfl
theorem und_bool : Try.prog.underlying 4 = some .bool := by kernel_rfl
theorem und_set : Try.prog.underlying 44 = some (.map 3 4) := by kernel_rfl
theorem kInt : Keyed Try.prog 3 := Maps.int_keyed und_int
theorem zbool (w : World) : (zeroValue 4).run Try.prog w = .ok (.bool false) w := by kernel_rfl
def I64 (h : Int) : Prop := -9223372036854775808 ≤ h ∧ h ≤ 9223372036854775807
theorem I64.wf {h : Int} (k : I64 h) : (Lit.int .i64 h).wf = true := by
  unfold I64 at k
  simp [Lit.wf, IntKind.min, IntKind.max, IntKind.signed, IntKind.bits]
  omega
theorem I64.key {h : Int} (k : I64 h) : keyOf Try.prog 3 (.int .i64 h) = some (.int .i64 h) := Maps.keyOf_int_mk und_int k.wf
theorem plainElem_bool_inv {v : Value} {z : DataW Unit × List MemPlace} (h : plainElem Try.prog 4 v = some z) : ∃ x, v = .bool x ∧ z = (.lit (.bool x), []) := by
  unfold plainElem at h
  rw [und_bool] at h
  cases v <;> simp at h
  exact ⟨_, rfl, h.symm⟩

/-- What a datum holds, as a function; and how much. -/
def SetD (D : DataW Unit) (m : Int → Bool) (c : Nat) : Prop :=
  Maps.size D = c ∧ (∀ h, I64 h → Maps.has D (.int .i64 h) = m h) ∧ ∀ h, I64 h → D.atKey (.int .i64 h) (.lit (.bool false)) = .lit (.bool (m h))
/-- Block b is a map that holds just what m says, each as true; there are c of these. -/
def SetIs (w : World) (b : Nat) (m : Int → Bool) (c n : Nat) : Prop :=
  ∃ D : DataW Unit, w.ownsMap Try.prog 3 (plainElem Try.prog 4) b n D ∧ SetD D m c
/-- One more. -/
def putB (m : Int → Bool) (h : Int) : Int → Bool := fun x => if x = h then true else m x

section
variable {w : World} {b : Nat} {m : Int → Bool} {c n : Nat}
theorem SetIs.made (w : World) : SetIs (w.alloc (.map #[] 0)) w.heap.size (fun _ => false) 0 0 :=
  ⟨_, World.ownsMap_made w _ _ _, rfl, fun _ _ => rfl, fun _ _ => rfl⟩
theorem SetIs.lt (h : SetIs w b m c n) : b < w.heap.size := by
  obtain ⟨D, h, _⟩ := h
  exact h.lt
theorem SetIs.touch {S : Nat → Prop} {w' : World} (h : SetIs w b m c n) (ht : Touch S w w') (hs : ¬ S b) : SetIs w' b m c n := by
  obtain ⟨D, h, hD⟩ := h
  have hlt := h.lt
  obtain ⟨es, clock, hb, F, k, e⟩ := h
  exact ⟨D, ⟨es, clock, (ht.block b hlt hs).trans hb, F, k, e⟩, hD⟩
theorem SetIs.look (h : SetIs w b m c n) {x : Int} (hx : I64 x) : (Instr.lookup 44 (.map (some b)) (.int .i64 x) false).run Try.prog w = .ok (.bool (m x)) w := by
  obtain ⟨D, h, _, _, hD⟩ := h
  obtain ⟨v, ps, hrun, hv⟩ := h.lookup kInt und_set (zbool w) (plainElem_bool und_bool false) hx.key
  obtain ⟨y, rfl, e⟩ := plainElem_bool_inv hv
  rw [hD x hx] at e
  simp only [Prod.mk.injEq, DataW.lit.injEq, Lit.bool.injEq] at e
  rw [hrun, e.1]
theorem SetIs.len (h : SetIs w b m c n) (ty : TypeId) : (Builtin.len_ #[44] ty #[.map (some b)]).run Try.prog w = .ok (.int .i64 c) w := by
  obtain ⟨D, h, e, _⟩ := h
  rw [h.len und_set ty, e]
theorem SetIs.put (h : SetIs w b m c n) {x : Int} (hx : I64 x) (hn : n < 100000) :
    ∃ w', (Instr.mapUpdate 44 (.map (some b)) (.int .i64 x) (.bool true)).run Try.prog w = .ok () w' ∧ SetIs w' b (putB m x) (if m x then c else c + 1) (n + 1) ∧ Only b w w' := by
  obtain ⟨D, h, e1, e2, e3⟩ := h
  obtain ⟨w', hrun, h', ht⟩ := h.store kInt und_set (Nat.lt_of_lt_of_le hn (by decide)) hx.key (plainElem_bool und_bool true)
  have hl : WideAt.IsKeyLit (.int .i64 x) := trivial
  refine ⟨w', hrun, ⟨_, h', ?_, fun y hy => ?_, fun y hy => ?_⟩, (Touch.refl _ w).grown ht.grown (fun k e _ => by cases e; rfl)⟩
  · rw [Maps.size_put (h.tidy kInt), e2 x hx, e1]
  · unfold putB
    by_cases e : y = x
    · subst e; rw [Maps.has_put_same h.isMap hl, if_pos rfl]
    · rw [Maps.has_put_other (by simpa using e), if_neg e, e2 y hy]
  · unfold putB
    by_cases e : y = x
    · subst e; rw [Maps.atKey_put_same h.isMap hl, if_pos rfl]
    · rw [Maps.atKey_put_other (by simpa using e), if_neg e, e3 y hy]

/-- 'for h := range m' under way: block r is the iterator. -/
def RangeIs (w : World) (b r : Nat) (m : Int → Bool) (c n cnt : Nat) : Prop :=
  ∃ (D : DataW Unit) (left : Lit → Bool), w.ranges Try.prog 3 (plainElem Try.prog 4) b r n D left cnt ∧ SetD D m c
theorem RangeIs.set {r cnt : Nat} (h : RangeIs w b r m c n cnt) : SetIs w b m c n := by
  obtain ⟨D, left, h, hD⟩ := h
  exact ⟨D, h.owns, hD⟩
theorem RangeIs.left {r cnt : Nat} (h : RangeIs w b r m c n cnt) : w.rangeLeft b r = cnt := by
  obtain ⟨D, left, h, hD⟩ := h
  exact h.left_eq
theorem RangeIs.lt {r cnt : Nat} (h : RangeIs w b r m c n cnt) : r < w.heap.size := by
  obtain ⟨D, left, h, hD⟩ := h
  exact h.lt
theorem RangeIs.touch {r cnt : Nat} {S : Nat → Prop} {w' : World} (h : RangeIs w b r m c n cnt) (ht : Touch S w w') (hs : ¬ S b) (hr : ¬ S r) : RangeIs w' b r m c n cnt := by
  obtain ⟨D, left, h, hD⟩ := h
  have h1 := h.owns.lt
  have h2 := h.lt
  obtain ⟨es, clock, since, seen, c0, hb, F, hsz, hDD, hit, rest⟩ := h
  exact ⟨D, left, ⟨es, clock, since, seen, c0, (ht.block b h1 hs).trans hb, F, hsz, hDD, (ht.block r h2 hr).trans hit, rest⟩, hD⟩
theorem SetIs.range (h : SetIs w b m c n) : ∃ w', (Instr.range 44 (.map (some b))).run Try.prog w = .ok (.pointer (some ⟨w.heap.size, 0, none⟩)) w' ∧ RangeIs w' b w.heap.size m c n c ∧ Keeps w w' := by
  obtain ⟨D, h, hD⟩ := h
  obtain ⟨w', hrun, hr, hg, _⟩ := h.range kInt und_set
  refine ⟨w', hrun, ⟨D, Maps.has D, by rw [hD.1] at hr; exact hr, hD⟩, (Touch.refl _ w).grown hg (fun k e _ => by cases e)⟩
theorem RangeIs.next {r cnt : Nat} (h : RangeIs w b r m c n cnt) (ty : TypeId) :
    (cnt = 0 ∧ (Instr.next (.pointer (some ⟨r, 0, none⟩)) false ty).run Try.prog w = .ok (.tuple #[.bool false]) w) ∨
    ∃ x y w' cnt', I64 x ∧ m x = true ∧ (Instr.next (.pointer (some ⟨r, 0, none⟩)) false ty).run Try.prog w = .ok (.tuple #[.bool true, .int .i64 x, .bool y]) w' ∧ RangeIs w' b r m c n cnt' ∧ cnt' < cnt ∧ Only r w w' ∧
      (Instr.entry (.pointer (some ⟨r, 0, none⟩))).run Try.prog w' = .ok (.tuple #[.int .i64 x, .bool y]) w' := by
  obtain ⟨D, left, h, hD⟩ := h
  rcases h.next kInt ty with ⟨h0, _, hrun⟩ | ⟨key, v, kl, y, w', cnt', hkey, hlk, hv, hat, hrun, hrg, hlt, hgr, hsz, hen⟩
  · exact .inl ⟨h0, hrun⟩
  · obtain ⟨x, rfl, rfl, hw⟩ := Maps.keyOf_int_inv und_int hkey
    obtain ⟨y, rfl, rfl⟩ := plainElem_bool_inv hv
    have hx : I64 x := i64_bounds hw
    refine .inr ⟨x, y, w', cnt', hx, ?_, hrun, ⟨D, _, hrg, hD⟩, hlt, (Touch.refl _ w).grown hgr (fun k e _ => by cases e; rfl), hen⟩
    rw [← hD.2.1 x hx]
    exact Maps.has_true_of_atKey hat
end

end Go.Proofs.Ytnjjecojedlccaa
