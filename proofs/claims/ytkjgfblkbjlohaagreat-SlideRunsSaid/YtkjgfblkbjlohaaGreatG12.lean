/- Layer 16, slide: a run's lost. -/
import Derived.Test.YtkjgfblkbjlohaaGreatG11
import Derived.Test.YtkjgfblkbjlohaaGreatG02
import Derived.Maps.OwnSet
import Derived.Maps.RangeWalk
import Derived.Test.YtkjgfblkbjlohaaGreatG01
import Derived.Test.YtkjgfblkbjlohaaGreatG10
set_option linter.all false

namespace Go.Proofs.YtkjgfblkbjlohaaGreat
open Go.RowKit

theorem and_low (i : Nat) (hi : i ≤ 40) (W : Int) (h0 : 0 ≤ W) (h1 : W < 2 ^ 62) : bits .and .i64 W (2 ^ i - 1) = W % 2 ^ i := by
  obtain ⟨a, rfl⟩ := Int.eq_ofNat_of_zero_le h0
  have hp : (2 : Nat) ^ i ≤ 2 ^ 40 := Nat.pow_le_pow_right (by decide) hi
  have hp0 : 0 < (2 : Nat) ^ i := Nat.two_pow_pos i
  have ha : a < 2 ^ 62 := by exact_mod_cast h1
  have p2 : (2 : Nat) ^ 62 < 2 ^ 63 := by decide
  have p1 : (2 : Nat) ^ 40 < 2 ^ 63 := by decide
  have h := (bits_nat .i64 63 (by decide) wraps_i64_63 a (2 ^ i - 1) (Nat.lt_trans ha p2) (by omega)).1
  rw [Nat.and_two_pow_sub_one_eq_mod] at h
  have e : (((2 ^ i - 1 : Nat) : Int)) = 2 ^ i - 1 := by
    rw [Int.natCast_sub hp0]; simp
  rw [e] at h
  rw [h]
  simp
theorem and63 (W : Int) (h0 : 0 ≤ W) (h1 : W < 2 ^ 62) : bits .and .i64 W 63 = W % 64 := and_low 6 (by decide) W h0 h1
theorem and15 (W : Int) (h0 : 0 ≤ W) (h1 : W < 2 ^ 62) : bits .and .i64 W 15 = W % 16 := and_low 4 (by decide) W h0 h1
theorem and1 (W : Int) (h0 : 0 ≤ W) (h1 : W < 2 ^ 62) : bits .and .i64 W 1 = W % 2 := and_low 1 (by decide) W h0 h1
/-- What a word's parts are, in numbers. -/
theorem raw_mod (W : Int) (h0 : 0 ≤ W) (h1 : W < 2 ^ 62) : rawH W = ⟨W % 64, W / 64 % 16, W / 8192, W / 1024 % 2 == 1, W / 2048 % 2 == 1, W / 4096 % 2 == 1⟩ := by
  unfold rawH
  rw [and63 W h0 h1, and15 _ (by omega) (by omega), and1 _ (by omega) (by omega), and1 _ (by omega) (by omega), and1 _ (by omega) (by omega)]
theorem raw_hdW {h : Hd} (hk : h.ok) : rawH (hdW h) = h := by
  obtain ⟨⟨a1, a2⟩, ⟨b1, b2⟩, ⟨c1, c2⟩, _⟩ := hk
  obtain ⟨c, a, f, m, fi, d⟩ := h
  dsimp only at *
  have q1 : bitI m 10 = if m then 1024 else 0 := by cases m <;> rfl
  have q2 : bitI fi 11 = if fi then 2048 else 0 := by cases fi <;> rfl
  have q3 : bitI d 12 = if d then 4096 else 0 := by cases d <;> rfl
  have hW : hdW ⟨c, a, f, m, fi, d⟩ = c + 64 * a + (if m then 1024 else 0) + (if fi then 2048 else 0) + (if d then 4096 else 0) + 8192 * f := by
    unfold hdW; rw [q1, q2, q3]
  rw [hW]
  have hb : 0 ≤ c + 64 * a + (if m then 1024 else 0) + (if fi then 2048 else 0) + (if d then 4096 else 0) + 8192 * f ∧ c + 64 * a + (if m then 1024 else 0) + (if fi then 2048 else 0) + (if d then 4096 else 0) + 8192 * f < 2 ^ 62 := by
    cases m <;> cases fi <;> cases d <;> simp <;> omega
  rw [raw_mod _ hb.1 hb.2]
  cases m <;> cases fi <;> cases d <;> simp <;> omega
theorem hdW_bd {h : Hd} (hk : h.ok) : 0 ≤ hdW h ∧ hdW h < 33554432 := by
  obtain ⟨⟨a1, a2⟩, ⟨b1, b2⟩, ⟨c1, c2⟩, _⟩ := hk
  obtain ⟨c, a, f, m, fi, d⟩ := h
  dsimp only at *
  unfold hdW
  dsimp only
  cases m <;> cases fi <;> cases d <;> simp [bitI] <;> omega
/-- An object that is laid stands there. -/
theorem atT_laid {n m : Nat} {f : Nat → Int} {C : Nat → Cl} {a c len : Int} (hC : ∀ j, j < m → (C j).ok) (hm : m < 64) (hE : shE C m c len = 0) (hT : thB n a (shW C m c len) = true)
    (h1 : f a.toNat = layW c (C (c - 1).toNat).fin) (h2 : f (a + 1).toNat = len) :
    atT n f m C a = (⟨⟨c, 0, 0, false, (C (c - 1).toNat).fin, false⟩, shR C m c len, shD C m c len, shW C m c len⟩, 0) := by
  have hok := lay_ok hC hm hE
  have hw : shW C m c len = 2 + shR C m c len + shD C m c len := by unfold shW; rw [if_pos hE]
  have hr : rawH (f a.toNat) = ⟨c, 0, 0, false, (C (c - 1).toNat).fin, false⟩ := by rw [h1]; exact raw_hdW hok.2
  obtain ⟨t1, t2, t3, t4⟩ := thB_true.1 hT
  have h2w := hok2 hC hE
  rw [hw]
  rw [hw] at hT
  exact atT_obj (thB_true.2 ⟨t1, by omega, t3, by omega⟩) (by rw [hr]; exact hok.2) hr (fun h => by have := hok.1.1; dsimp only at h; omega) (by omega) h2 hE rfl rfl hT
/-- The cells of a laid object. -/
theorem layF_at {f : Nat → Int} {a k W len : Int} (h : 0 ≤ a) : layF f a k W len a.toNat = W := by
  unfold layF putF
  rw [if_neg (by omega), if_pos rfl]
theorem layF_len {f : Nat → Int} {a k W len : Int} : layF f a k W len (a + 1).toNat = len := by
  unfold layF putF
  rw [if_pos rfl]
theorem layF_in {f : Nat → Int} {a k W len : Int} (h : 0 ≤ a) {j : Nat} (h1 : a + 2 ≤ j) (h2 : (j : Int) < a + k) : layF f a k W len j = 0 := by
  unfold layF putF fillF
  rw [if_neg (by omega), if_neg (by omega), if_pos (by omega)]
theorem layF_out {f : Nat → Int} {a k W len : Int} (h : 0 ≤ a) (hk : 2 ≤ k) {j : Nat} (h1 : (j : Int) < a ∨ a + k ≤ j) : layF f a k W len j = f j := by
  unfold layF putF fillF
  rw [if_neg (by omega), if_neg (by omega), if_neg (by omega)]

end Go.Proofs.YtkjgfblkbjlohaaGreat

namespace Go.Proofs.YtkjgfblkbjlohaaGreat
open Go.RowKit
open Go.Maps (Keyed)

theorem und_int : Tryz.prog.underlying 3 = some (.int .i64) := by kernel_rfl
theorem und_bool : Tryz.prog.underlying 4 = some .bool := by kernel_rfl
theorem und_set : Tryz.prog.underlying 142 = some (.map 3 4) := by kernel_rfl
theorem kInt : Keyed Tryz.prog 3 := Maps.int_keyed und_int
theorem zbool (w : World) : (zeroValue 4).run Tryz.prog w = .ok (.bool false) w := by kernel_rfl
def I64 (h : Int) : Prop := -9223372036854775808 ≤ h ∧ h ≤ 9223372036854775807
theorem I64.wf {h : Int} (k : I64 h) : (Lit.int .i64 h).wf = true := by
  unfold I64 at k
  simp [Lit.wf, IntKind.min, IntKind.max, IntKind.signed, IntKind.bits]
  omega
theorem I64.key {h : Int} (k : I64 h) : keyOf Tryz.prog 3 (.int .i64 h) = some (.int .i64 h) := Maps.keyOf_int_mk und_int k.wf
theorem plainElem_bool_inv {v : Value} {z : DataW Unit × List MemPlace} (h : plainElem Tryz.prog 4 v = some z) : ∃ x, v = .bool x ∧ z = (.lit (.bool x), []) := by
  unfold plainElem at h
  rw [und_bool] at h
  cases v <;> simp at h
  exact ⟨_, rfl, h.symm⟩

/-- What a datum holds, as a function; and how much. -/
def SetD (D : DataW Unit) (m : Int → Bool) (c : Nat) : Prop :=
  Maps.size D = c ∧ (∀ h, I64 h → Maps.has D (.int .i64 h) = m h) ∧ ∀ h, I64 h → D.atKey (.int .i64 h) (.lit (.bool false)) = .lit (.bool (m h))
/-- Block b is a map that holds just what m says, each as true; there are c of these. -/
def SetIs (w : World) (b : Nat) (m : Int → Bool) (c n : Nat) : Prop :=
  ∃ D : DataW Unit, w.ownsMap Tryz.prog 3 (plainElem Tryz.prog 4) b n D ∧ SetD D m c
/-- One more. -/
def putB (m : Int → Bool) (h : Int) : Int → Bool := fun x => if x = h then true else m x

section
variable {w : World} {b : Nat} {m : Int → Bool} {c n : Nat}
theorem SetIs.made (w : World) : SetIs (w.alloc (.map #[] 0)) w.heap.size (fun _ => false) 0 0 :=
  ⟨_, World.ownsMap_made w _ _ _, rfl, fun _ _ => rfl, fun _ _ => rfl⟩
theorem SetIs.lt (h : SetIs w b m c n) : b < w.heap.size := by
  obtain ⟨D, h, _⟩ := h
  exact h.lt
theorem SetIs.touch {S : Nat → Prop} {w' : World} (h : SetIs w b m c n) (ht : Touch S w w') (hs : ¬ S b) : SetIs w' b m c n := by
  obtain ⟨D, h, hD⟩ := h
  have hlt := h.lt
  obtain ⟨es, clock, hb, F, k, e⟩ := h
  exact ⟨D, ⟨es, clock, (ht.block b hlt hs).trans hb, F, k, e⟩, hD⟩
theorem SetIs.look (h : SetIs w b m c n) {x : Int} (hx : I64 x) : (Instr.lookup 142 (.map (some b)) (.int .i64 x) false).run Tryz.prog w = .ok (.bool (m x)) w := by
  obtain ⟨D, h, _, _, hD⟩ := h
  obtain ⟨v, ps, hrun, hv⟩ := h.lookup kInt und_set (zbool w) (plainElem_bool und_bool false) hx.key
  obtain ⟨y, rfl, e⟩ := plainElem_bool_inv hv
  rw [hD x hx] at e
  simp only [Prod.mk.injEq, DataW.lit.injEq, Lit.bool.injEq] at e
  rw [hrun, e.1]
theorem SetIs.len (h : SetIs w b m c n) (ty : TypeId) : (Builtin.len_ #[142] ty #[.map (some b)]).run Tryz.prog w = .ok (.int .i64 c) w := by
  obtain ⟨D, h, e, _⟩ := h
  rw [h.len und_set ty, e]
theorem SetIs.put (h : SetIs w b m c n) {x : Int} (hx : I64 x) (hn : n < 100000) :
    ∃ w', (Instr.mapUpdate 142 (.map (some b)) (.int .i64 x) (.bool true)).run Tryz.prog w = .ok () w' ∧ SetIs w' b (putB m x) (if m x then c else c + 1) (n + 1) ∧ Only b w w' := by
  obtain ⟨D, h, e1, e2, e3⟩ := h
  obtain ⟨w', hrun, h', ht⟩ := h.store kInt und_set (Nat.lt_of_lt_of_le hn (by decide)) hx.key (plainElem_bool und_bool true)
  have hl : WideAt.IsKeyLit (.int .i64 x) := trivial
  refine ⟨w', hrun, ⟨_, h', ?_, fun y hy => ?_, fun y hy => ?_⟩, (Touch.refl _ w).grown ht.grown (fun k e _ => by cases e; rfl)⟩
  · rw [Maps.size_put (h.tidy kInt), e2 x hx, e1]
  · unfold putB
    by_cases e : y = x
    · subst e; rw [Maps.has_put_same h.isMap hl, if_pos rfl]
    · rw [Maps.has_put_other (by simpa using e), if_neg e, e2 y hy]
  · unfold putB
    by_cases e : y = x
    · subst e; rw [Maps.atKey_put_same h.isMap hl, if_pos rfl]
    · rw [Maps.atKey_put_other (by simpa using e), if_neg e, e3 y hy]

/-- 'for h := range m' under way: block r is the iterator. -/
def RangeIs (w : World) (b r : Nat) (m : Int → Bool) (c n cnt : Nat) : Prop :=
  ∃ (D : DataW Unit) (left : Lit → Bool), w.ranges Tryz.prog 3 (plainElem Tryz.prog 4) b r n D left cnt ∧ SetD D m c
theorem RangeIs.set {r cnt : Nat} (h : RangeIs w b r m c n cnt) : SetIs w b m c n := by
  obtain ⟨D, left, h, hD⟩ := h
  exact ⟨D, h.owns, hD⟩
theorem RangeIs.left {r cnt : Nat} (h : RangeIs w b r m c n cnt) : w.rangeLeft b r = cnt := by
  obtain ⟨D, left, h, hD⟩ := h
  exact h.left_eq
theorem RangeIs.lt {r cnt : Nat} (h : RangeIs w b r m c n cnt) : r < w.heap.size := by
  obtain ⟨D, left, h, hD⟩ := h
  exact h.lt
theorem RangeIs.touch {r cnt : Nat} {S : Nat → Prop} {w' : World} (h : RangeIs w b r m c n cnt) (ht : Touch S w w') (hs : ¬ S b) (hr : ¬ S r) : RangeIs w' b r m c n cnt := by
  obtain ⟨D, left, h, hD⟩ := h
  have h1 := h.owns.lt
  have h2 := h.lt
  obtain ⟨es, clock, since, seen, c0, hb, F, hsz, hDD, hit, rest⟩ := h
  exact ⟨D, left, ⟨es, clock, since, seen, c0, (ht.block b h1 hs).trans hb, F, hsz, hDD, (ht.block r h2 hr).trans hit, rest⟩, hD⟩
theorem SetIs.range (h : SetIs w b m c n) : ∃ w', (Instr.range 142 (.map (some b))).run Tryz.prog w = .ok (.pointer (some ⟨w.heap.size, 0, none⟩)) w' ∧ RangeIs w' b w.heap.size m c n c ∧ Keeps w w' := by
  obtain ⟨D, h, hD⟩ := h
  obtain ⟨w', hrun, hr, hg, _⟩ := h.range kInt und_set
  refine ⟨w', hrun, ⟨D, Maps.has D, by rw [hD.1] at hr; exact hr, hD⟩, (Touch.refl _ w).grown hg (fun k e _ => by cases e)⟩
theorem RangeIs.next {r cnt : Nat} (h : RangeIs w b r m c n cnt) (ty : TypeId) :
    (cnt = 0 ∧ (Instr.next (.pointer (some ⟨r, 0, none⟩)) false ty).run Tryz.prog w = .ok (.tuple #[.bool false]) w) ∨
    ∃ x y w' cnt', I64 x ∧ m x = true ∧ (Instr.next (.pointer (some ⟨r, 0, none⟩)) false ty).run Tryz.prog w = .ok (.tuple #[.bool true, .int .i64 x, .bool y]) w' ∧ RangeIs w' b r m c n cnt' ∧ cnt' < cnt ∧ Only r w w' ∧
      (Instr.entry (.pointer (some ⟨r, 0, none⟩))).run Tryz.prog w' = .ok (.tuple #[.int .i64 x, .bool y]) w' := by
  obtain ⟨D, left, h, hD⟩ := h
  rcases h.next kInt ty with ⟨h0, _, hrun⟩ | ⟨key, v, kl, y, w', cnt', hkey, hlk, hv, hat, hrun, hrg, hlt, hgr, hsz, hen⟩
  · exact .inl ⟨h0, hrun⟩
  · obtain ⟨x, rfl, rfl, hw⟩ := Maps.keyOf_int_inv und_int hkey
    obtain ⟨y, rfl, rfl⟩ := plainElem_bool_inv hv
    have hx : I64 x := i64_bounds hw
    refine .inr ⟨x, y, w', cnt', hx, ?_, hrun, ⟨D, _, hrg, hD⟩, hlt, (Touch.refl _ w).grown hgr (fun k e _ => by cases e; rfl), hen⟩
    rw [← hD.2.1 x hx]
    exact Maps.has_true_of_atKey hat
end

end Go.Proofs.YtkjgfblkbjlohaaGreat

namespace Go.Proofs.YtkjgfblkbjlohaaGreat
open Go.RowKit

theorem und_mapi : Tryz.prog.underlying 83 = some (.map 3 3) := by kernel_rfl
theorem zint (w : World) : (zeroValue 3).run Tryz.prog w = .ok (.int .i64 0) w := by kernel_rfl
/-- What a datum holds, as a function. -/
def MapD (D : DataW Unit) (M : Int → Option Int) : Prop :=
  (∀ h, I64 h → Maps.has D (.int .i64 h) = (M h).isSome) ∧ ∀ h, I64 h → D.atKey (.int .i64 h) (.lit (.int .i64 0)) = .lit (.int .i64 ((M h).getD 0))
/-- Block b is a map that holds just what M says. -/
def MapIs (w : World) (b : Nat) (M : Int → Option Int) (n : Nat) : Prop :=
  ∃ D : DataW Unit, w.ownsMap Tryz.prog 3 (plainElem Tryz.prog 3) b n D ∧ MapD D M
def putM (M : Int → Option Int) (h v : Int) : Int → Option Int := fun x => if x = h then some v else M x

section
variable {w : World} {b : Nat} {M : Int → Option Int} {n : Nat}
theorem MapIs.made (w : World) : MapIs (w.alloc (.map #[] 0)) w.heap.size (fun _ => none) 0 :=
  ⟨_, World.ownsMap_made w _ _ _, fun _ _ => rfl, fun _ _ => rfl⟩
theorem MapIs.lt (h : MapIs w b M n) : b < w.heap.size := by
  obtain ⟨D, h, _⟩ := h
  exact h.lt
theorem MapIs.touch {S : Nat → Prop} {w' : World} (h : MapIs w b M n) (ht : Touch S w w') (hs : ¬ S b) : MapIs w' b M n := by
  obtain ⟨D, h, hD⟩ := h
  have hlt := h.lt
  obtain ⟨es, clock, hb, F, k, e⟩ := h
  exact ⟨D, ⟨es, clock, (ht.block b hlt hs).trans hb, F, k, e⟩, hD⟩
theorem MapIs.keep {w' : World} (h : MapIs w b M n) (k : Keeps w w') : MapIs w' b M n := h.touch k (fun h => h)
theorem MapIs.look (h : MapIs w b M n) {x : Int} (hx : I64 x) : (Instr.lookup 83 (.map (some b)) (.int .i64 x) false).run Tryz.prog w = .ok (.int .i64 ((M x).getD 0)) w := by
  obtain ⟨D, h, _, hD⟩ := h
  obtain ⟨c, hrun, hat, _⟩ := h.lookup_int kInt und_mapi und_int (zint w) hx.key
  rw [hD x hx] at hat
  simp only [DataW.lit.injEq, Lit.int.injEq, true_and] at hat
  rw [hrun, hat]
theorem MapIs.look_ok (h : MapIs w b M n) {x : Int} (hx : I64 x) : (Instr.lookup 83 (.map (some b)) (.int .i64 x) true).run Tryz.prog w = .ok (.tuple #[.int .i64 ((M x).getD 0), .bool (M x).isSome]) w := by
  obtain ⟨D, h, hH, hD⟩ := h
  have hw0 : (Lit.int .i64 0).wf = true := by decide
  obtain ⟨v, ps, hrun, hv⟩ := h.look_ok kInt und_mapi (zint w) (plainElem_int und_int hw0) hx.key
  obtain ⟨c, rfl, hc, _⟩ := plainElem_int_inv und_int hv
  simp only [Prod.mk.injEq] at hc
  have hat := hc.1
  rw [hD x hx] at hat
  simp only [DataW.lit.injEq, Lit.int.injEq, true_and] at hat
  rw [hrun, hH x hx, hat]
theorem MapIs.put (h : MapIs w b M n) {x v : Int} (hx : I64 x) (hv : I64 v) (hn : n < 100000) :
    ∃ w', (Instr.mapUpdate 83 (.map (some b)) (.int .i64 x) (.int .i64 v)).run Tryz.prog w = .ok () w' ∧ MapIs w' b (putM M x v) (n + 1) ∧ Only b w w' := by
  obtain ⟨D, h, e2, e3⟩ := h
  obtain ⟨w', hrun, h', ht⟩ := h.store kInt und_mapi (Nat.lt_of_lt_of_le hn (by decide)) hx.key (plainElem_int und_int hv.wf)
  have hl : WideAt.IsKeyLit (.int .i64 x) := trivial
  refine ⟨w', hrun, ⟨_, h', fun y hy => ?_, fun y hy => ?_⟩, (Touch.refl _ w).grown ht.grown (fun k e _ => by cases e; rfl)⟩
  · unfold putM
    by_cases e : y = x
    · subst e; rw [Maps.has_put_same h.isMap hl, if_pos rfl]; rfl
    · rw [Maps.has_put_other (by simpa using e), if_neg e, e2 y hy]
  · unfold putM
    by_cases e : y = x
    · subst e; rw [Maps.atKey_put_same h.isMap hl, if_pos rfl]; rfl
    · rw [Maps.atKey_put_other (by simpa using e), if_neg e, e3 y hy]
end

end Go.Proofs.YtkjgfblkbjlohaaGreat

namespace Go.Proofs.YtkjgfblkbjlohaaGreat
open Go.RowKit

/-- A run: block rb holds the arena, the store, what stays, its sizes, where it goes. -/
def runL (ba bt mb : Nat) (stay sizes : Value) : List Value := [.pointer (some ⟨ba, 0, none⟩), .pointer (some ⟨ba, 0, none⟩), .pointer (some ⟨bt, 0, none⟩), stay, sizes, .map (some mb)]
theorem goes_any (rb mb : Nat) (M : Int → Option Int) (n : Nat) (a : Int) (w : World) (hc : w.cell? ⟨rb, 5, none⟩ = some (.map (some mb))) (hM : MapIs w mb M n) (ha : I64 a) :
    Calls Tryz.prog 36 #[.pointer (some ⟨rb, 0, none⟩), .int .i64 a] w fun e w' => e = .returned (.bool (M a).isSome) ∧ w = w' := by
  have hl := hM.look_ok ha
  go_enter Tryz.func36, Tryz.ntmps36
  go_wp2_with fail
  go_ret
  exact ⟨rfl, rfl⟩

end Go.Proofs.YtkjgfblkbjlohaaGreat

namespace Go.Proofs.YtkjgfblkbjlohaaGreat
open Go.RowKit

/-- It tells whether P. -/
def Tells (P : Prop) (w : World) (e : Ending) (w' : World) : Prop := ∃ b : Bool, e = .returned (.bool b) ∧ (b = true ↔ P) ∧ Keeps w w'
theorem ref_in (ba bw n : Nat) (f : Nat → Int) (bt : Nat) (A : Option Addr) (m cap : Nat) (C : Nat → Cl) (w : World) (h : St w ba bw n f bt A m cap C) (a i : Int) (hq : (objP (atT n f m C a)).2 = 0) (h0 : 0 ≤ i) (h1 : i < (objP (atT n f m C a)).1.refs) :
    Calls Tryz.prog 74 #[stV ba bt, .int .i64 a, .int .i64 i] w fun e w' => e = .returned (.tuple #[.int .i64 (f (refAt a i).toNat), .int .i64 0]) ∧ Keeps w w' := by
  have hr := ref_any ba bw n f bt A m cap C w h a i
  have hE := slE_zero.2 ⟨hq, h0, h1⟩
  rw [if_pos hE, hE] at hr
  exact hr

set_option maxHeartbeats 1000000 in
theorem lost_any (ba bw n : Nat) (f : Nat → Int) (bt : Nat) (A : Option Addr) (m cap : Nat) (C : Nat → Cl) (w : World) (h : St w ba bw n f bt A m cap C) (hf : ∀ j, j < n → I64 (f j)) (rb mb : Nat) (stay sizes : Value)
    (hR : BL w rb 85 (runL ba bt mb stay sizes)) (M : Int → Option Int) (nn : Nat) (hM : MapIs w mb M nn) (a : Int) (hq : (objP (atT n f m C a)).2 = 0) :
    Calls Tryz.prog 34 #[.pointer (some ⟨rb, 0, none⟩), .int .i64 a] w (Tells (∃ i : Nat, (i : Int) < (objP (atT n f m C a)).1.refs ∧ M (f (refAt a i).toNat) = none) w) := by
  have hSt := Lib.hid h
  obtain ⟨k1, k2, k3, k4, k5, k6⟩ := obj_ok h.tb.ok hq
  have HSh := Lib.hid (fun w' (h : St w' ba bw n f bt A m cap C) => oshape_any ba bw n f bt A m cap C w' h a)
  have HRf := Lib.hid (fun w' (h : St w' ba bw n f bt A m cap C) (i : Int) (h0 : 0 ≤ i) (h1 : i < (objP (atT n f m C a)).1.refs) => ref_in ba bw n f bt A m cap C w' h a i hq h0 h1)
  have HG := Lib.hid (fun (v : Int) w' (k : Keeps w w') hc hv => goes_any rb mb M nn v w' hc (hM.keep k) hv)
  have HV := Lib.hid (fun (i : Int) (h0 : 0 ≤ i) (h1 : i < (objP (atT n f m C a)).1.refs) => hf (refAt a i).toNat (by unfold refAt; omega))
  have hq2 := Lib.hid hq
  clear h hf hq hM
  unfold runL at hR
  unfold stV at *
  generalize objP (atT n f m C a) = q at *
  have K0 := Touch.refl (fun _ => False) w
  have l1 := hR.lt
  have c2 : w.cell? ⟨rb, 0, none⟩ = some (.pointer (some ⟨ba, 0, none⟩)) := hR.c 0 _ rfl
  have c3 : w.cell? ⟨rb, 1, none⟩ = some (.pointer (some ⟨ba, 0, none⟩)) := hR.c 1 _ rfl
  have c4 : w.cell? ⟨rb, 2, none⟩ = some (.pointer (some ⟨bt, 0, none⟩)) := hR.c 2 _ rfl
  have c5 : w.cell? ⟨rb, 3, none⟩ = some (stay) := hR.c 3 _ rfl
  have c6 : w.cell? ⟨rb, 4, none⟩ = some (sizes) := hR.c 4 _ rfl
  have c7 : w.cell? ⟨rb, 5, none⟩ = some (.map (some mb)) := hR.c 5 _ rfl
  go_enter Tryz.func34, Tryz.ntmps34
  go_wp2_with fail
  refine Calls.mono (HSh.out _ (hSt.out.keep K0)) ?_
  rintro e w8 ⟨rfl, kw8⟩
  have Kw8 := Keeps.trans K0 kw8
  have Bw8_RB := BL.keep hR kw8
  have zw8 := kw8.size
  clear l1 c2 c3 c4 c5 c6 c7 hR K0 kw8
  have l9 := Bw8_RB.lt
  go_wp2_with fail
  go_loopw [22] (fun i wr => ∃ q0 : Nat, (q0 : Int) ≤ q.1.refs ∧ i = .int .i64 q0 ∧ Keeps w8 wr ∧ ∀ j : Nat, j < q0 → M (f (refAt a j).toNat) ≠ none) (fun i _ => (q.1.refs - intOf i).toNat)
  case atStart => exact ⟨0, by omega, rfl, Touch.refl _ _, fun j hj => by omega⟩
  case round =>
    obtain ⟨wo, rfl⟩ : ∃ wo : World, wo = wr := ⟨_, rfl⟩
    obtain ⟨q0, hq0, rfl, kr, hall⟩ := hrel
    have HA := Lib.hid hall
    clear hall
    have Kwo := Keeps.trans Kw8 kr
    have Bwo_RB := BL.keep Bw8_RB kr
    have zwo := kr.size
    clear l9 Bw8_RB
    by_cases hlt : (q0 : Int) < q.1.refs
    ·
      have l10 := Bwo_RB.lt
      have c11 : wo.cell? ⟨rb, 0, none⟩ = some (.pointer (some ⟨ba, 0, none⟩)) := Bwo_RB.c 0 _ rfl
      have c12 : wo.cell? ⟨rb, 1, none⟩ = some (.pointer (some ⟨ba, 0, none⟩)) := Bwo_RB.c 1 _ rfl
      have c13 : wo.cell? ⟨rb, 2, none⟩ = some (.pointer (some ⟨bt, 0, none⟩)) := Bwo_RB.c 2 _ rfl
      have c14 : wo.cell? ⟨rb, 3, none⟩ = some (stay) := Bwo_RB.c 3 _ rfl
      have c15 : wo.cell? ⟨rb, 4, none⟩ = some (sizes) := Bwo_RB.c 4 _ rfl
      have c16 : wo.cell? ⟨rb, 5, none⟩ = some (.map (some mb)) := Bwo_RB.c 5 _ rfl
      go_wp2_with fail
      refine Calls.mono (HRf.out _ (hSt.out.keep Kwo) _ (by omega) hlt) ?_
      rintro e w9 ⟨rfl, k9⟩
      have Kw9 := Keeps.trans Kwo k9
      have Bw9_RB := BL.keep Bwo_RB k9
      have zw9 := k9.size
      clear l10 c11 c12 c13 c14 c15 c16 Bwo_RB Kwo
      have l17 := Bw9_RB.lt
      have c18 : w9.cell? ⟨rb, 5, none⟩ = some (.map (some mb)) := Bw9_RB.c 5 _ rfl
      have hv := HV.out q0 (by omega) hlt
      generalize hx : f (refAt a q0).toNat = x at *
      have HX := Lib.hid hx
      have HI := Lib.hid hv
      clear hx hv
      go_wp2_with fail
      refine Calls.mono (HG.out x _ Kw9 (Bw9_RB.c 5 _ rfl) HI.out) ?_
      rintro e wz ⟨rfl, rfl⟩
      cases hs : (M x).isSome with
      | false =>
        have HSx := Lib.hid hs
        clear hs
        go_wp2_with fail
        go_ret
        exact ⟨true, rfl, ⟨fun _ => ⟨q0, hlt, by rw [HX.out]; have := HSx.out; cases hm : M x with | none => rfl | some _ => rw [hm] at this; cases this⟩, fun _ => rfl⟩, Kw9⟩
      | true =>
        have HSx := Lib.hid hs
        clear hs
        go_wp2_with fail
        go_roundw
        case rel => exact ⟨q0 + 1, by omega, by go_num, Keeps.trans kr k9, fun j hj => by
          rcases (by omega : j < q0 ∨ j = q0) with h | rfl
          · exact HA.out j h
          · rw [HX.out]; intro hn; have := HSx.out; rw [hn] at this; cases this⟩
        case measure => simp [intOf]; omega
    ·
      have l19 := Bwo_RB.lt
      have hge : q.1.refs ≤ (q0 : Int) := by omega
      go_wp2_with fail
      go_ret
      exact ⟨false, rfl, ⟨fun h => (by cases h), fun ⟨i, h1, h2⟩ => absurd h2 (HA.out i (by omega))⟩, Kwo⟩

end Go.Proofs.YtkjgfblkbjlohaaGreat
