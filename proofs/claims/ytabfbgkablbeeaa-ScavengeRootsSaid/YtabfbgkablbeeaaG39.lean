/- The classes among the arguments. -/
import Derived.Test.YtabfbgkablbeeaaG36
import Derived.Test.YtabfbgkablbeeaaG02
import Derived.Test.YtabfbgkablbeeaaG04
set_option linter.all false

namespace Go.Proofs.Ytabfbgkablbeeaa
open Go.RowKit

section
variable {n m : Nat} {C : Nat → Cl} {f : Nat → Int} {L : Nat → Sp} {G : Nat → List Int}
theorem HW.put_ref (H : HW n m C f L G) {a tz : Int} (ha : inG G a) {i : Nat} (hi : (i : Int) < oR n m C f a) (ht : tz = 0 ∨ inG G tz) :
    (∀ x, inG G x → atT n (putF f (a + 2 + i).toNat tz) m C x = atT n f m C x) ∧ HW n m C (putF f (a + 2 + i).toNat tz) L G := by
  obtain ⟨ja, hja, hma⟩ := ha
  obtain ⟨_, _, _, a0, a1, a2, a3, _⟩ := H.obj hja hma
  have hsm : ∀ x, inG G x → atT n (putF f (a + 2 + i).toNat tz) m C x = atT n f m C x := fun x hx => by
    obtain ⟨j, hj, hm⟩ := hx
    obtain ⟨_, _, _, q0, q1, q2, q3, _⟩ := H.obj hj hm
    by_cases e : x = a
    · rw [e]; exact atT_two (putF_ne (by omega)) (putF_ne (by omega))
    · have := H.apart ⟨ja, hja, hma⟩ ⟨j, hj, hm⟩ (fun h => e h.symm)
      exact atT_two (putF_ne (by omega)) (putF_ne (by omega))
  refine ⟨hsm, H.ok, H.n4, H.bd, H.sep, fun j hj => (H.tile j hj).congr (fun x hx => ?_), fun x hx k hk => ?_⟩
  · rw [hsm x ⟨j, hj, hx⟩]
    obtain ⟨_, _, b3, b4, _⟩ := (H.tile j hj).bd x hx
    exact ⟨b3, b4, rfl⟩
  · have hk' : (k : Int) < oR n m C f x := by
      have e : oR n m C (putF f (a + 2 + i).toNat tz) x = (atT n (putF f (a + 2 + i).toNat tz) m C x).1.refs := rfl
      rw [e, hsm x hx] at hk; exact hk
    unfold putF
    split
    · exact ht
    · exact H.ref x hx k hk'
end
/-- Where the reference of a world leads: from 0 on the objects, 0 is nothing. -/
def pick (l : List Int) (k : Int) : Int := if k ≤ 0 then 0 else l.getD (k - 1).toNat 0
theorem pick_in {l : List Int} {k : Int} (h : k ≤ l.length) : pick l k = 0 ∨ pick l k ∈ l := by
  unfold pick
  split
  · exact .inl rfl
  · refine .inr ?_
    rw [List.getD_eq_getElem?_getD, List.getElem?_eq_getElem (by omega)]
    exact List.getElem_mem _
/-- One reference of a world. -/
def Lw.ref (s : Lw) (n m : Nat) (C : Nat → Cl) (a b c : Int) : Lw :=
  if s.at_.length = 0 then s
  else if (atT n s.f m C (s.at_.getD (a % s.at_.length).toNat 0)).1.refs ≤ 0 then s
  else { s with f := putF s.f (s.at_.getD (a % s.at_.length).toNat 0 + 2 + (b % (atT n s.f m C (s.at_.getD (a % s.at_.length).toNat 0)).1.refs).toNat).toNat (pick s.at_ (c % (s.at_.length + 1))) }
theorem LwOk.ref {n m : Nat} {C : Nat → Cl} {F E : Nat → Int} {s : Lw} (H : LwOk n m C F E s) (a b c : Int) : LwOk n m C F E (s.ref n m C a b c) := by
  unfold Lw.ref
  split
  · exact H
  rename_i hl
  split
  · exact H
  rename_i hr
  have hx : s.at_.getD (a % s.at_.length).toNat 0 ∈ s.at_ := by
    have h1 := Int.emod_nonneg a (show (s.at_.length : Int) ≠ 0 by omega)
    have h2 := Int.emod_lt_of_pos a (show (0 : Int) < s.at_.length by omega)
    rw [List.getD_eq_getElem?_getD, List.getElem?_eq_getElem (by omega)]
    exact List.getElem_mem _
  generalize s.at_.getD (a % s.at_.length).toNat 0 = x at *
  have hg := (H.mem x).1 hx
  have hb1 := Int.emod_nonneg b (show (atT n s.f m C x).1.refs ≠ 0 by omega)
  have hb2 := Int.emod_lt_of_pos b (show (0 : Int) < (atT n s.f m C x).1.refs by omega)
  have hc1 := Int.emod_lt_of_pos c (show (0 : Int) < (s.at_.length : Int) + 1 by omega)
  have hp := pick_in (l := s.at_) (k := c % (s.at_.length + 1)) (by omega)
  generalize pick s.at_ (c % (s.at_.length + 1)) = tz at *
  have htz : tz = 0 ∨ inG s.g tz := hp.imp_right (H.mem tz).1
  obtain ⟨h1, h2⟩ := H.hw.put_ref hg (i := (b % (atT n s.f m C x).1.refs).toNat) (show ((b % (atT n s.f m C x).1.refs).toNat : Int) < (atT n s.f m C x).1.refs by omega) htz
  refine ⟨h2, H.mem, H.nd, fun j hj => ?_⟩
  show I64 (putF _ _ _ j)
  unfold putF
  split
  · rcases htz with h | h
    · rw [h]; exact i64_small' (by omega) (by omega)
    · obtain ⟨jj, hjj, hm⟩ := h
      obtain ⟨_, _, _, q0, q1, q2, q3, _⟩ := H.hw.obj hjj hm
      have := H.hw.n4
      exact i64_small' (by omega) (by omega)
  · exact H.i64 j hj

end Go.Proofs.Ytabfbgkablbeeaa

namespace Go.Proofs.Ytabfbgkablbeeaa
open Go.RowKit

/-- Where a space begins, and where it ends: Old, Eden, From, To. -/
def beg15 (half : Int) : Nat → Int := fun j => if j = 0 then 1 else if j = 1 then 401 else if j = 2 then 601 else 601 + half
def end15 (half : Int) : Nat → Int := fun j => if j = 0 then 401 else if j = 1 then 601 else if j = 2 then 601 + half else 601 + half + half
structure Tg where
  cl : Int
  ag : Int
  wh : Int
  da : Int
structure Rg where
  a : Int
  b : Int
  c : Int
def Lw.start (half : Int) : Lw := ⟨fun _ => 0, beg15 half, fun _ => [], []⟩
/-- The first things are laid. -/
def layN (C : Nat → Cl) (m : Nat) (half : Int) (T : Nat → Tg) : Nat → Lw
  | 0 => Lw.start half
  | i + 1 => (layN C m half T i).lay C m (end15 half) (T i).cl (T i).ag (T i).wh (T i).da
/-- The first references are set. -/
def refN (n m : Nat) (C : Nat → Cl) (R : Nat → Rg) (s : Lw) : Nat → Lw
  | 0 => s
  | i + 1 => (refN n m C R s i).ref n m C (R i).a (R i).b (R i).c
theorem LwOk.start {m : Nat} {C : Nat → Cl} (hC : ∀ j, j < m → (C j).ok) {half : Int} (h : 0 ≤ half ∧ half ≤ 100) : LwOk 1000 m C (beg15 half) (end15 half) (Lw.start half) := by
  refine ⟨⟨hC, by decide, fun j hj => ?_, fun i j hi hj hne => ?_, fun j hj => .nil _, fun a ha => ?_⟩, fun x => ⟨fun hx => (by cases hx), fun ⟨j, _, hx⟩ => (by cases hx)⟩, List.nodup_nil, fun j _ => i64_small' (by show -100000 ≤ (0 : Int); decide) (by show (0 : Int) ≤ _; decide)⟩
  · show 1 ≤ beg15 half j ∧ beg15 half j ≤ beg15 half j ∧ beg15 half j ≤ end15 half j ∧ end15 half j ≤ (1000 : Nat)
    unfold beg15 end15
    have : j = 0 ∨ j = 1 ∨ j = 2 := by omega
    rcases this with rfl | rfl | rfl <;> simp <;> omega
  · show end15 half i ≤ beg15 half j ∨ end15 half j ≤ beg15 half i
    unfold beg15 end15
    have h1 : i = 0 ∨ i = 1 ∨ i = 2 := by omega
    have h2 : j = 0 ∨ j = 1 ∨ j = 2 := by omega
    rcases h1 with rfl | rfl | rfl <;> rcases h2 with rfl | rfl | rfl <;> simp at hne ⊢
  · obtain ⟨j, _, hx⟩ := ha; cases hx
theorem end15_le {half : Int} (h : 0 ≤ half ∧ half ≤ 100) : ∀ j, j < 3 → end15 half j ≤ ((1000 : Nat) : Int) - 1 := fun j hj => by
  unfold end15
  have : j = 0 ∨ j = 1 ∨ j = 2 := by omega
  rcases this with rfl | rfl | rfl <;> simp <;> omega
theorem LwOk.layN {m : Nat} {C : Nat → Cl} (hC : ∀ j, j < m → (C j).ok) (hm0 : 0 < m) (hm : m < 64) {half : Int} (h : 0 ≤ half ∧ half ≤ 100) {T : Nat → Tg} (hT : ∀ i, 0 ≤ (T i).da ∧ (T i).da ≤ 255) : ∀ i, LwOk 1000 m C (beg15 half) (end15 half) (layN C m half T i)
  | 0 => LwOk.start hC h
  | i + 1 => (LwOk.layN hC hm0 hm h hT i).lay hm0 hm (end15_le h) (hT i)
theorem LwOk.refN {n m : Nat} {C : Nat → Cl} {F E : Nat → Int} {R : Nat → Rg} {s : Lw} (H : LwOk n m C F E s) : ∀ i, LwOk n m C F E (refN n m C R s i)
  | 0 => H
  | i + 1 => (LwOk.refN H i).ref _ _ _
theorem layN_len {m : Nat} {C : Nat → Cl} {half : Int} {T : Nat → Tg} : ∀ i, (layN C m half T i).at_.length ≤ i
  | 0 => Nat.le_refl _
  | i + 1 => by
    have := layN_len (m := m) (C := C) (half := half) (T := T) i
    show ((layN C m half T i).lay C m (end15 half) (T i).cl (T i).ag (T i).wh (T i).da).at_.length ≤ i + 1
    unfold Lw.lay
    split
    · omega
    · simp; omega

end Go.Proofs.Ytabfbgkablbeeaa

namespace Go.Proofs.Ytabfbgkablbeeaa
open Go.ChangeShapes Go.WideShapes Go.ChangeAt Go.RowKit Go.Deep

theorem nil_fields {H : Type} {enc : TypeId × Value → H} {P : Program} {w : World} {t e : TypeId} {fs : Array Field} {len cap : Nat} {d : DataW H} {p : List MemPlace}
    (ht : P.underlying t = some (.slice e)) (he : P.underlying e = some (.struct fs)) (hone : oneCellFields P fs = true) (hC : P.cellsOf e = fs.size)
    (h : DataW.Trod enc P w 0 (fun _ => true) true t (.slice none len cap) d p) : len = 0 ∧ cap = 0 := by
  obtain ⟨fuel, hf⟩ := h
  rcases open_slice_fields ht he hone hC hf with ⟨hcs, _⟩ | ⟨a, l, c, m, D, Pl, hcs, _⟩
  · simp [Value.cells] at hcs
    exact hcs
  · simp [Value.cells] at hcs
theorem rd_cls {H : Type} {enc : TypeId × Value → H} {w : World} {A : Option Addr} {len cap : Nat} {d : DataW H} {p : List MemPlace}
    (h : DataW.Trod enc Try.prog w 0 (fun _ => true) true 22 (.slice A len cap) d p) :
    ∃ C, (A = none → len = 0 ∧ cap = 0) ∧ Rd w A (len * 4) (clF C) ∧ len ≤ maxLen := by
  have hn : A = none → len = 0 ∧ cap = 0 := fun e => by
    subst e
    exact nil_fields Try.underlying22 Try.underlying53 (by kernel_rfl) (by kernel_rfl) h
  obtain ⟨h1, h2, h3⟩ := rd_structs Try.underlying22 Try.underlying53 (by kernel_rfl) (by kernel_rfl) h
  have g0 : ∀ i, i < len → _ := fun i hi => (h3 i hi 0 _ rfl).elim fun n h => h.elim fun y h => int_of_trod Try.underlying3 h
  have g1 : ∀ i, i < len → _ := fun i hi => (h3 i hi 1 _ rfl).elim fun n h => h.elim fun y h => int_of_trod Try.underlying3 h
  have g2 : ∀ i, i < len → _ := fun i hi => (h3 i hi 2 _ rfl).elim fun n h => h.elim fun y h => int_of_trod Try.underlying3 h
  have g3 : ∀ i, i < len → _ := fun i hi => (h3 i hi 3 _ rfl).elim fun n h => h.elim fun y h => bool_of_trod Try.underlying4 h
  clear h3
  simp only [List.size_toArray, List.length_cons, List.length_nil, Nat.zero_add, Nat.reduceAdd, Nat.add_zero] at h1 g0 g1 g2 g3
  refine ⟨fun i => ⟨intOf (cellAt w A (i * 4)), intOf (cellAt w A (i * 4 + 1)), intOf (cellAt w A (i * 4 + 2)), boolOf (cellAt w A (i * 4 + 3))⟩, hn, h1.congr fun j hj => ?_, h2⟩
  have hq : j / 4 < len := by omega
  unfold clF
  rcases (by omega : j % 4 = 0 ∨ j % 4 = 1 ∨ j % 4 = 2 ∨ j % 4 = 3) with e | e | e | e
  · rw [if_pos e]; have := (g0 _ hq).1; dsimp only; rwa [show j / 4 * 4 = j from by omega] at this ⊢
  · rw [if_neg (by omega), if_pos e]; have := (g1 _ hq).1; dsimp only; rwa [show j / 4 * 4 + 1 = j from by omega] at this ⊢
  · rw [if_neg (by omega), if_neg (by omega), if_pos e]; have := (g2 _ hq).1; dsimp only; rwa [show j / 4 * 4 + 2 = j from by omega] at this ⊢
  · rw [if_neg (by omega), if_neg (by omega), if_neg (by omega)]; have := g3 _ hq; dsimp only; rwa [show j / 4 * 4 + 3 = j from by omega] at this ⊢

end Go.Proofs.Ytabfbgkablbeeaa
