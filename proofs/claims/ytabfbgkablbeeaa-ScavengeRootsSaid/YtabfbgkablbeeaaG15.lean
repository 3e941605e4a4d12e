/- Words and heads: what a word's parts are; a laid object reads as it was laid. -/
import Derived.Test.YtabfbgkablbeeaaG02
import Derived.Maps.OwnSet
import Derived.Maps.RangeWalk
import Derived.Test.YtabfbgkablbeeaaG14
import Derived.Test.YtabfbgkablbeeaaG12
set_option linter.all false

namespace Go.Proofs.Ytabfbgkablbeeaa
open Go.RowKit
open Go.Maps (Keyed)

theorem und_int : Try.prog.underlying 3 = some (.int .i64) := by kernel_rfl
theorem und_bool : Try.prog.underlying 4 = some .bool := by kernel_rfl
theorem und_set : Try.prog.underlying 107 = some (.map 3 4) := by kernel_rfl
theorem kInt : Keyed Try.prog 3 := Maps.int_keyed und_int
theorem zbool (w : World) : (zeroValue 4).run Try.prog w = .ok (.bool false) w := by kernel_rfl
def I64 (h : Int) : Prop := -9223372036854775808 ≤ h ∧ h ≤ 9223372036854775807
theorem I64.wf {h : Int} (k : I64 h) : (Lit.int .i64 h).wf = true := by
  unfold I64 at k
  simp [Lit.wf, IntKind.min, IntKind.max, IntKind.signed, IntKind.bits]
  omega
theorem I64.key {h : Int} (k : I64 h) : keyOf Try.prog 3 (.int .i64 h) = some (.int .i64 h) := Maps.keyOf_int_mk und_int k.wf
theorem plainElem_bool_inv {v : Value} {z : DataW Unit × List MemPlace} (h : plainElem Try.prog 4 v = some z) : ∃ x, v = .bool x ∧ z = (.lit (.bool x), []) := by
  unfold plainElem at h
  rw [und_bool] at h
  cases v <;> simp at h
  exact ⟨_, rfl, h.symm⟩

/-- What a datum holds, as a function; and how much. -/
def SetD (D : DataW Unit) (m : Int → Bool) (c : Nat) : Prop :=
  Maps.size D = c ∧ (∀ h, I64 h → Maps.has D (.int .i64 h) = m h) ∧ ∀ h, I64 h → D.atKey (.int .i64 h) (.lit (.bool false)) = .lit (.bool (m h))
/-- Block b is a map that holds just what m says, each as true; there are c of these. -/
def SetIs (w : World) (b : Nat) (m : Int → Bool) (c n : Nat) : Prop :=
  ∃ D : DataW Unit, w.ownsMap Try.prog 3 (plainElem Try.prog 4) b n D ∧ SetD D m c
/-- One more. -/
def putB (m : Int → Bool) (h : Int) : Int → Bool := fun x => if x = h then true else m x

section
variable {w : World} {b : Nat} {m : Int → Bool} {c n : Nat}
theorem SetIs.made (w : World) : SetIs (w.alloc (.map #[] 0)) w.heap.size (fun _ => false) 0 0 :=
  ⟨_, World.ownsMap_made w _ _ _, rfl, fun _ _ => rfl, fun _ _ => rfl⟩
theorem SetIs.lt (h : SetIs w b m c n) : b < w.heap.size := by
  obtain ⟨D, h, _⟩ := h
  exact h.lt
theorem SetIs.touch {S : Nat → Prop} {w' : World} (h : SetIs w b m c n) (ht : Touch S w w') (hs : ¬ S b) : SetIs w' b m c n := by
  obtain ⟨D, h, hD⟩ := h
  have hlt := h.lt
  obtain ⟨es, clock, hb, F, k, e⟩ := h
  exact ⟨D, ⟨es, clock, (ht.block b hlt hs).trans hb, F, k, e⟩, hD⟩
theorem SetIs.look (h : SetIs w b m c n) {x : Int} (hx : I64 x) : (Instr.lookup 107 (.map (some b)) (.int .i64 x) false).run Try.prog w = .ok (.bool (m x)) w := by
  obtain ⟨D, h, _, _, hD⟩ := h
  obtain ⟨v, ps, hrun, hv⟩ := h.lookup kInt und_set (zbool w) (plainElem_bool und_bool false) hx.key
  obtain ⟨y, rfl, e⟩ := plainElem_bool_inv hv
  rw [hD x hx] at e
  simp only [Prod.mk.injEq, DataW.lit.injEq, Lit.bool.injEq] at e
  rw [hrun, e.1]
theorem SetIs.len (h : SetIs w b m c n) (ty : TypeId) : (Builtin.len_ #[107] ty #[.map (some b)]).run Try.prog w = .ok (.int .i64 c) w := by
  obtain ⟨D, h, e, _⟩ := h
  rw [h.len und_set ty, e]
theorem SetIs.put (h : SetIs w b m c n) {x : Int} (hx : I64 x) (hn : n < 100000) :
    ∃ w', (Instr.mapUpdate 107 (.map (some b)) (.int .i64 x) (.bool true)).run Try.prog w = .ok () w' ∧ SetIs w' b (putB m x) (if m x then c else c + 1) (n + 1) ∧ Only b w w' := by
  obtain ⟨D, h, e1, e2, e3⟩ := h
  obtain ⟨w', hrun, h', ht⟩ := h.store kInt und_set (Nat.lt_of_lt_of_le hn (by decide)) hx.key (plainElem_bool und_bool true)
  have hl : WideAt.IsKeyLit (.int .i64 x) := trivial
  refine ⟨w', hrun, ⟨_, h', ?_, fun y hy => ?_, fun y hy => ?_⟩, (Touch.refl _ w).grown ht.grown (fun k e _ => by cases e; rfl)⟩
  · rw [Maps.size_put (h.tidy kInt), e2 x hx, e1]
  · unfold putB
    by_cases e : y = x
    · subst e; rw [Maps.has_put_same h.isMap hl, if_pos rfl]
    · rw [Maps.has_put_other (by simpa using e), if_neg e, e2 y hy]
  · unfold putB
    by_cases e : y = x
    · subst e; rw [Maps.atKey_put_same h.isMap hl, if_pos rfl]
    · rw [Maps.atKey_put_other (by simpa using e), if_neg e, e3 y hy]

/-- 'for h := range m' under way: block r is the iterator. -/
def RangeIs (w : World) (b r : Nat) (m : Int → Bool) (c n cnt : Nat) : Prop :=
  ∃ (D : DataW Unit) (left : Lit → Bool), w.ranges Try.prog 3 (plainElem Try.prog 4) b r n D left cnt ∧ SetD D m c
theorem RangeIs.set {r cnt : Nat} (h : RangeIs w b r m c n cnt) : SetIs w b m c n := by
  obtain ⟨D, left, h, hD⟩ := h
  exact ⟨D, h.owns, hD⟩
theorem RangeIs.left {r cnt : Nat} (h : RangeIs w b r m c n cnt) : w.rangeLeft b r = cnt := by
  obtain ⟨D, left, h, hD⟩ := h
  exact h.left_eq
theorem RangeIs.lt {r cnt : Nat} (h : RangeIs w b r m c n cnt) : r < w.heap.size := by
  obtain ⟨D, left, h, hD⟩ := h
  exact h.lt
theorem RangeIs.touch {r cnt : Nat} {S : Nat → Prop} {w' : World} (h : RangeIs w b r m c n cnt) (ht : Touch S w w') (hs : ¬ S b) (hr : ¬ S r) : RangeIs w' b r m c n cnt := by
  obtain ⟨D, left, h, hD⟩ := h
  have h1 := h.owns.lt
  have h2 := h.lt
  obtain ⟨es, clock, since, seen, c0, hb, F, hsz, hDD, hit, rest⟩ := h
  exact ⟨D, left, ⟨es, clock, since, seen, c0, (ht.block b h1 hs).trans hb, F, hsz, hDD, (ht.block r h2 hr).trans hit, rest⟩, hD⟩
theorem SetIs.range (h : SetIs w b m c n) : ∃ w', (Instr.range 107 (.map (some b))).run Try.prog w = .ok (.pointer (some ⟨w.heap.size, 0, none⟩)) w' ∧ RangeIs w' b w.heap.size m c n c ∧ Keeps w w' := by
  obtain ⟨D, h, hD⟩ := h
  obtain ⟨w', hrun, hr, hg, _⟩ := h.range kInt und_set
  refine ⟨w', hrun, ⟨D, Maps.has D, by rw [hD.1] at hr; exact hr, hD⟩, (Touch.refl _ w).grown hg (fun k e _ => by cases e)⟩
theorem RangeIs.next {r cnt : Nat} (h : RangeIs w b r m c n cnt) (ty : TypeId) :
    (cnt = 0 ∧ (Instr.next (.pointer (some ⟨r, 0, none⟩)) false ty).run Try.prog w = .ok (.tuple #[.bool false]) w) ∨
    ∃ x y w' cnt', I64 x ∧ m x = true ∧ (Instr.next (.pointer (some ⟨r, 0, none⟩)) false ty).run Try.prog w = .ok (.tuple #[.bool true, .int .i64 x, .bool y]) w' ∧ RangeIs w' b r m c n cnt' ∧ cnt' < cnt ∧ Only r w w' ∧
      (Instr.entry (.pointer (some ⟨r, 0, none⟩))).run Try.prog w' = .ok (.tuple #[.int .i64 x, .bool y]) w' := by
  obtain ⟨D, left, h, hD⟩ := h
  rcases h.next kInt ty with ⟨h0, _, hrun⟩ | ⟨key, v, kl, y, w', cnt', hkey, hlk, hv, hat, hrun, hrg, hlt, hgr, hsz, hen⟩
  · exact .inl ⟨h0, hrun⟩
  · obtain ⟨x, rfl, rfl, hw⟩ := Maps.keyOf_int_inv und_int hkey
    obtain ⟨y, rfl, rfl⟩ := plainElem_bool_inv hv
    have hx : I64 x := i64_bounds hw
    refine .inr ⟨x, y, w', cnt', hx, ?_, hrun, ⟨D, _, hrg, hD⟩, hlt, (Touch.refl _ w).grown hgr (fun k e _ => by cases e; rfl), hen⟩
    rw [← hD.2.1 x hx]
    exact Maps.has_true_of_atKey hat
end

end Go.Proofs.Ytabfbgkablbeeaa

namespace Go.Proofs.Ytabfbgkablbeeaa
open Go.RowKit

/-- What is walked through lies in the arena, and is no more than it has words. -/
theorem WalkR.small {n m : Nat} {f : Nat → Int} {C : Nat → Cl} (hC : ∀ j, j < m → (C j).ok) {z a : Int} {L : List Int} {e : Int} (h : WalkR (atT n f m C) z a L e) :
    (∀ x, x ∈ L → 1 ≤ x ∧ x < n ∧ a ≤ x ∧ (atT n f m C x).2 = 0 ∧ (atT n f m C x).1.is = true) ∧ (L = [] ∨ (1 ≤ a ∧ (L.length : Int) + a ≤ n)) := by
  induction h with
  | done h1 => exact ⟨fun x hx => (by cases hx), .inl rfl⟩
  | err h1 h2 => exact ⟨fun x hx => (by cases hx), .inl rfl⟩
  | far h1 h2 h3 => exact ⟨fun x hx => (by cases hx), .inl rfl⟩
  | step h1 h2 h3 h4 ih =>
    rename_i a L e
    obtain ⟨k1, k2, k3, _⟩ := at_ok hC h2
    by_cases he : e = 0
    · rw [if_pos he]
      cases hi : (atT n f m C a).1.is with
      | true =>
        rw [if_pos rfl]
        refine ⟨fun x hx => ?_, .inr ⟨k1, ?_⟩⟩
        · rcases List.mem_cons.1 hx with rfl | hx
          · exact ⟨k1, by omega, by omega, h2, hi⟩
          · obtain ⟨q1, q2, q3, q4⟩ := ih.1 x hx
            exact ⟨q1, q2, by omega, q4⟩
        · rcases ih.2 with rfl | ⟨q1, q2⟩
          · simp; omega
          · simp; omega
      | false =>
        rw [if_neg (by decide)]
        refine ⟨fun x hx => ?_, ih.2.elim .inl (fun q => .inr ⟨k1, by omega⟩)⟩
        obtain ⟨q1, q2, q3, q4⟩ := ih.1 x hx
        exact ⟨q1, q2, by omega, q4⟩
    · rw [if_neg he]
      exact ⟨fun x hx => (by cases hx), .inl rfl⟩

theorem make_set (w : World) : (Instr.makeMap 107 none).run Try.prog w = .ok (.map (some w.heap.size)) (w.alloc (.map #[] 0)) := run_makeMap _ w
theorem cell_keep {w w' : World} {p : Addr} {v : Value} (h : w.cell? p = some v) (k : Keeps w w') : w'.cell? p = some v := by
  rw [← h]
  exact World.cell?_of_block (k.block _ (block_lt_of_cell h) (fun h => h))
theorem info_sp : (Try.prog.info? 36).map (fun i => (i.zero, i.size, i.bytes)) = some (some (.agg #[.int .i64 0, .int .i64 0, .int .i64 0]), 3, 24) := by kernel_rfl
/-- It tells whether P. -/
def Tells (P : Prop) (w : World) (e : Ending) (w' : World) : Prop := ∃ b : Bool, e = .returned (.bool b) ∧ (b = true ↔ P) ∧ Keeps w w'
theorem ref_in (ba bw n : Nat) (f : Nat → Int) (bt : Nat) (A : Option Addr) (m cap : Nat) (C : Nat → Cl) (w : World) (h : St w ba bw n f bt A m cap C) (a i : Int) (hq : (objP (atT n f m C a)).2 = 0) (h0 : 0 ≤ i) (h1 : i < (objP (atT n f m C a)).1.refs) :
    Calls Try.prog 47 #[stV ba bt, .int .i64 a, .int .i64 i] w fun e w' => e = .returned (.tuple #[.int .i64 (f (refAt a i).toNat), .int .i64 0]) ∧ Keeps w w' := by
  have hr := ref_any ba bw n f bt A m cap C w h a i
  have hE := slE_zero.2 ⟨hq, h0, h1⟩
  rw [if_pos hE, hE] at hr
  exact hr

theorem St.touch {w w' : World} {ba bw n : Nat} {f : Nat → Int} {bt : Nat} {A : Option Addr} {m cap : Nat} {C : Nat → Cl} {S : Nat → Prop} (h : St w ba bw n f bt A m cap C) (ht : Touch S w w') (h1 : ¬ S ba) (h2 : ¬ S bw) (h3 : ¬ S bt) (h4 : ∀ b off, A = some ⟨b, off, none⟩ → ¬ S b) : St w' ba bw n f bt A m cap C :=
  ⟨h.ar.touch ht h1 h2, h.tb.touch ht h3 h4, h.ne, h.neA⟩
/-- What is new lies at a; all else is as it was. -/
theorem cell_t {w w' : World} {p : Addr} {v : Value} {S : Nat → Prop} (h : w.cell? p = some v) (k : Touch S w w') (hb : ¬ S p.block) : w'.cell? p = some v := by
  rw [← h]
  exact World.cell?_of_block (k.block _ (block_lt_of_cell h) hb)
theorem cell_only {w w' : World} {p : Addr} {v : Value} {b : Nat} (h : w.cell? p = some v) (k : Only b w w') (hb : p.block ≠ b) : w'.cell? p = some v := by
  rw [← h]
  exact World.cell?_of_block (k.block _ (block_lt_of_cell h) (fun h => hb h))
theorem Only.grown {b : Nat} {w0 w w' : World} {row : Option Nat} (h : Only b w0 w) (hg : w.grownBy w' row) (hr : ∀ k, row = some k → w0.heap.size ≤ k) : Only b w0 w' :=
  Touch.grown h hg (fun k e hlt => by have := hr k e; omega)
theorem Only.alloc_ {b : Nat} {w0 w : World} (h : Only b w0 w) (o : Obj) : Only b w0 (w.alloc o) := Touch.alloc h o
/-- What lies below N, and in another block than rb, is as it was. -/
theorem St.aside {N rb : Nat} {w w' : World} {ba bw n : Nat} {f : Nat → Int} {bt : Nat} {A : Option Addr} {m cap : Nat} {C : Nat → Cl} (h : St w ba bw n f bt A m cap C) (t : Touch (fun k => N ≤ k ∨ k = rb) w w')
    (hN : ba < N ∧ bw < N ∧ bt < N ∧ ∀ b off, A = some ⟨b, off, none⟩ → b < N) (hr : rb ≠ ba ∧ rb ≠ bw ∧ rb ≠ bt ∧ ∀ b off, A = some ⟨b, off, none⟩ → b ≠ rb) : St w' ba bw n f bt A m cap C := by
  obtain ⟨n1, n2, n3, n4⟩ := hN
  obtain ⟨r1, r2, r3, r4⟩ := hr
  exact h.touch t (by omega) (by omega) (by omega) (fun b off e => by have := n4 b off e; have := r4 b off e; omega)
theorem St.lows {w : World} {ba bw n : Nat} {f : Nat → Int} {bt : Nat} {A : Option Addr} {m cap : Nat} {C : Nat → Cl} (h : St w ba bw n f bt A m cap C) (hm : 0 < m) : ba < w.heap.size ∧ bw < w.heap.size ∧ bt < w.heap.size ∧ ∀ b off, A = some ⟨b, off, none⟩ → b < w.heap.size := by
  refine ⟨h.ar.lt1, h.ar.lt2, h.tb.head.lt, fun b off e => ?_⟩
  obtain ⟨b', o', e', hb, _⟩ := h.tb.body (by omega)
  rw [e] at e'; simp only [Option.some.injEq, Addr.mk.injEq] at e'; omega

end Go.Proofs.Ytabfbgkablbeeaa

namespace Go.Proofs.Ytabfbgkablbeeaa
open Go.RowKit

theorem WalkR.det {T : Int → Th × Int} {z a : Int} {L L' : List Int} {e e' : Int} (h : WalkR T z a L e) (h' : WalkR T z a L' e') : L = L' ∧ e = e' := by
  induction h generalizing L' e' with
  | done h1 => cases h' with
    | done _ => exact ⟨rfl, rfl⟩
    | err k1 _ => omega
    | far k1 _ _ => omega
    | step k1 _ _ _ => omega
  | err h1 h2 => cases h' with
    | done k1 => omega
    | err k1 _ => exact ⟨rfl, rfl⟩
    | far k1 k2 _ => exact absurd k2 h2
    | step k1 k2 _ _ => exact absurd k2 h2
  | far h1 h2 h3 => cases h' with
    | done k1 => omega
    | err k1 k2 => exact absurd h2 k2
    | far k1 k2 _ => exact ⟨rfl, rfl⟩
    | step k1 k2 k3 _ => omega
  | step h1 h2 h3 h4 ih => cases h' with
    | done k1 => omega
    | err k1 k2 => exact absurd h2 k2
    | far k1 k2 k3 => omega
    | step k1 k2 k3 k4 =>
      obtain ⟨rfl, rfl⟩ := ih k4
      exact ⟨rfl, rfl⟩
theorem putF_self (f : Nat → Int) (k : Nat) (v : Int) : putF f k v k = v := if_pos rfl
theorem putF_ne {f : Nat → Int} {k j : Nat} {v : Int} (h : j ≠ k) : putF f k v j = f j := if_neg h
theorem raw_gap : rawH gapW = ⟨0, 0, 0, false, false, false⟩ := by kernel_rfl
theorem raw_gap1 : rawH gap1W = ⟨0, 0, 0, true, false, false⟩ := by kernel_rfl

end Go.Proofs.Ytabfbgkablbeeaa

namespace Go.Proofs.Ytabfbgkablbeeaa
open Go.RowKit

theorem and_low (i : Nat) (hi : i ≤ 40) (W : Int) (h0 : 0 ≤ W) (h1 : W < 2 ^ 62) : bits .and .i64 W (2 ^ i - 1) = W % 2 ^ i := by
  obtain ⟨a, rfl⟩ := Int.eq_ofNat_of_zero_le h0
  have hp : (2 : Nat) ^ i ≤ 2 ^ 40 := Nat.pow_le_pow_right (by decide) hi
  have hp0 : 0 < (2 : Nat) ^ i := Nat.two_pow_pos i
  have ha : a < 2 ^ 62 := by exact_mod_cast h1
  have p2 : (2 : Nat) ^ 62 < 2 ^ 63 := by decide
  have p1 : (2 : Nat) ^ 40 < 2 ^ 63 := by decide
  have h := (bits_nat .i64 63 (by decide) wraps_i64_63 a (2 ^ i - 1) (Nat.lt_trans ha p2) (by omega)).1
  rw [Nat.and_two_pow_sub_one_eq_mod] at h
  have e : (((2 ^ i - 1 : Nat) : Int)) = 2 ^ i - 1 := by
    rw [Int.natCast_sub hp0]; simp
  rw [e] at h
  rw [h]
  simp
theorem and63 (W : Int) (h0 : 0 ≤ W) (h1 : W < 2 ^ 62) : bits .and .i64 W 63 = W % 64 := and_low 6 (by decide) W h0 h1
theorem and15 (W : Int) (h0 : 0 ≤ W) (h1 : W < 2 ^ 62) : bits .and .i64 W 15 = W % 16 := and_low 4 (by decide) W h0 h1
theorem and1 (W : Int) (h0 : 0 ≤ W) (h1 : W < 2 ^ 62) : bits .and .i64 W 1 = W % 2 := and_low 1 (by decide) W h0 h1
/-- What a word's parts are, in numbers. -/
theorem raw_mod (W : Int) (h0 : 0 ≤ W) (h1 : W < 2 ^ 62) : rawH W = ⟨W % 64, W / 64 % 16, W / 8192, W / 1024 % 2 == 1, W / 2048 % 2 == 1, W / 4096 % 2 == 1⟩ := by
  unfold rawH
  rw [and63 W h0 h1, and15 _ (by omega) (by omega), and1 _ (by omega) (by omega), and1 _ (by omega) (by omega), and1 _ (by omega) (by omega)]
theorem raw_hdW {h : Hd} (hk : h.ok) : rawH (hdW h) = h := by
  obtain ⟨⟨a1, a2⟩, ⟨b1, b2⟩, ⟨c1, c2⟩, _⟩ := hk
  obtain ⟨c, a, f, m, fi, d⟩ := h
  dsimp only at *
  have q1 : bitI m 10 = if m then 1024 else 0 := by cases m <;> rfl
  have q2 : bitI fi 11 = if fi then 2048 else 0 := by cases fi <;> rfl
  have q3 : bitI d 12 = if d then 4096 else 0 := by cases d <;> rfl
  have hW : hdW ⟨c, a, f, m, fi, d⟩ = c + 64 * a + (if m then 1024 else 0) + (if fi then 2048 else 0) + (if d then 4096 else 0) + 8192 * f := by
    unfold hdW; rw [q1, q2, q3]
  rw [hW]
  have hb : 0 ≤ c + 64 * a + (if m then 1024 else 0) + (if fi then 2048 else 0) + (if d then 4096 else 0) + 8192 * f ∧ c + 64 * a + (if m then 1024 else 0) + (if fi then 2048 else 0) + (if d then 4096 else 0) + 8192 * f < 2 ^ 62 := by
    cases m <;> cases fi <;> cases d <;> simp <;> omega
  rw [raw_mod _ hb.1 hb.2]
  cases m <;> cases fi <;> cases d <;> simp <;> omega
theorem hdW_bd {h : Hd} (hk : h.ok) : 0 ≤ hdW h ∧ hdW h < 33554432 := by
  obtain ⟨⟨a1, a2⟩, ⟨b1, b2⟩, ⟨c1, c2⟩, _⟩ := hk
  obtain ⟨c, a, f, m, fi, d⟩ := h
  dsimp only at *
  unfold hdW
  dsimp only
  cases m <;> cases fi <;> cases d <;> simp [bitI] <;> omega
/-- An object that is laid stands there. -/
theorem atT_laid {n m : Nat} {f : Nat → Int} {C : Nat → Cl} {a c len : Int} (hC : ∀ j, j < m → (C j).ok) (hm : m < 64) (hE : shE C m c len = 0) (hT : thB n a (shW C m c len) = true)
    (h1 : f a.toNat = layW c (C (c - 1).toNat).fin) (h2 : f (a + 1).toNat = len) :
    atT n f m C a = (⟨⟨c, 0, 0, false, (C (c - 1).toNat).fin, false⟩, shR C m c len, shD C m c len, shW C m c len⟩, 0) := by
  have hok := lay_ok hC hm hE
  have hw : shW C m c len = 2 + shR C m c len + shD C m c len := by unfold shW; rw [if_pos hE]
  have hr : rawH (f a.toNat) = ⟨c, 0, 0, false, (C (c - 1).toNat).fin, false⟩ := by rw [h1]; exact raw_hdW hok.2
  obtain ⟨t1, t2, t3, t4⟩ := thB_true.1 hT
  have h2w := hok2 hC hE
  rw [hw]
  rw [hw] at hT
  exact atT_obj (thB_true.2 ⟨t1, by omega, t3, by omega⟩) (by rw [hr]; exact hok.2) hr (fun h => by have := hok.1.1; dsimp only at h; omega) (by omega) h2 hE rfl rfl hT
/-- The cells of a laid object. -/
theorem layF_at {f : Nat → Int} {a k W len : Int} (h : 0 ≤ a) : layF f a k W len a.toNat = W := by
  unfold layF putF
  rw [if_neg (by omega), if_pos rfl]
theorem layF_len {f : Nat → Int} {a k W len : Int} : layF f a k W len (a + 1).toNat = len := by
  unfold layF putF
  rw [if_pos rfl]
theorem layF_in {f : Nat → Int} {a k W len : Int} (h : 0 ≤ a) {j : Nat} (h1 : a + 2 ≤ j) (h2 : (j : Int) < a + k) : layF f a k W len j = 0 := by
  unfold layF putF fillF
  rw [if_neg (by omega), if_neg (by omega), if_pos (by omega)]
theorem layF_out {f : Nat → Int} {a k W len : Int} (h : 0 ≤ a) (hk : 2 ≤ k) {j : Nat} (h1 : (j : Int) < a ∨ a + k ≤ j) : layF f a k W len j = f j := by
  unfold layF putF fillF
  rw [if_neg (by omega), if_neg (by omega), if_neg (by omega)]

end Go.Proofs.Ytabfbgkablbeeaa
