/- Layer 15, plain: a heap of three spaces, each filled with objects side by side; what a run makes of it is one again. -/
import Derived.Test.YtabfbgkablbeeaaG21
set_option linter.all false

namespace Go.Proofs.Ytabfbgkablbeeaa
open Go.RowKit

/-- From a to z there are objects, side by side. -/
inductive Tl (T : Int → Th × Int) : Int → Int → List Int → Prop
  | nil (a : Int) : Tl T a a []
  | cons {a z : Int} {l : List Int} : (T a).2 = 0 → (T a).1.is = true → 1 ≤ (T a).1.words → Tl T (a + (T a).1.words) z l → Tl T a z (a :: l)
namespace Tl
variable {T T' : Int → Th × Int} {a b z : Int} {l l' : List Int}
theorem le (h : Tl T a z l) : a ≤ z := by
  induction h with
  | nil => exact Int.le_refl _
  | cons _ _ h3 _ ih => omega
theorem walk (h : Tl T a z l) : WalkR T z a l 0 := by
  induction h with
  | nil => exact .done (Int.le_refl _)
  | cons h1 h2 h3 h4 ih =>
    have hle := h4.le
    have := WalkR.step (by omega) h1 (by omega) ih
    rw [if_pos rfl, if_pos h2] at this
    exact this
theorem append (h : Tl T a b l) (h' : Tl T b z l') : Tl T a z (l ++ l') := by
  induction h with
  | nil => exact h'
  | cons h1 h2 h3 _ ih => exact .cons h1 h2 h3 (ih h')
theorem congr (h : Tl T a z l) (he : ∀ x, x ∈ l → (T' x).2 = 0 ∧ (T' x).1.is = true ∧ (T' x).1.words = (T x).1.words) : Tl T' a z l := by
  induction h with
  | nil => exact .nil _
  | cons h1 h2 h3 _ ih =>
    obtain ⟨e1, e2, e3⟩ := he _ (List.mem_cons_self ..)
    exact .cons e1 e2 (by rw [e3]; exact h3) (by rw [e3]; exact ih (fun x hx => he x (List.mem_cons_of_mem _ hx)))
theorem bd (h : Tl T a z l) : ∀ x, x ∈ l → a ≤ x ∧ x + (T x).1.words ≤ z ∧ (T x).2 = 0 ∧ (T x).1.is = true ∧ 1 ≤ (T x).1.words := by
  induction h with
  | nil => exact fun x hx => by cases hx
  | cons h1 h2 h3 h4 ih =>
    intro x hx
    have hle := h4.le
    rcases List.mem_cons.1 hx with rfl | hx
    · exact ⟨Int.le_refl _, hle, h1, h2, h3⟩
    · obtain ⟨q1, q2⟩ := ih x hx
      exact ⟨by omega, q2⟩
theorem sep (h : Tl T a z l) : ∀ x y, x ∈ l → y ∈ l → x ≠ y → x + (T x).1.words ≤ y ∨ y + (T y).1.words ≤ x := by
  induction h with
  | nil => exact fun x y hx => by cases hx
  | cons h1 h2 h3 h4 ih =>
    intro x y hx hy hne
    rcases List.mem_cons.1 hx with ex | hx
    · rcases List.mem_cons.1 hy with ey | hy
      · exact absurd (ex.trans ey.symm) hne
      · rw [ex]; exact .inl (h4.bd y hy).1
    · rcases List.mem_cons.1 hy with ey | hy
      · rw [ey]; exact .inr (h4.bd x hx).1
      · exact ih x y hx hy hne
theorem nd (h : Tl T a z l) : l.Nodup := by
  induction h with
  | nil => exact List.nodup_nil
  | cons h1 h2 h3 h4 ih => exact List.nodup_cons.2 ⟨fun hm => by have := (h4.bd _ hm).1; omega, ih⟩
theorem sum (h : Tl T a z l) : (l.map fun x => (T x).1.words).sum = z - a := by
  induction h with
  | nil => simp
  | cons h1 h2 h3 h4 ih => rw [List.map_cons, List.sum_cons, ih]; omega
theorem len (h : Tl T a z l) : (l.length : Int) ≤ z - a := by
  induction h with
  | nil => simp
  | cons h1 h2 h3 h4 ih => rw [List.length_cons]; omega
end Tl
theorem Chain.tl {T : Int → Th × Int} {K φ : Int → Int} {x z : Int} {l : List Int} (h : Chain K φ x l z) (he : ∀ a, a ∈ l → (T (φ a)).2 = 0 ∧ (T (φ a)).1.is = true ∧ (T (φ a)).1.words = K a ∧ 1 ≤ K a) : Tl T x z (l.map φ) := by
  induction h with
  | nil z => exact .nil _
  | cons e _ ih =>
    obtain ⟨e1, e2, e3, e4⟩ := he _ (List.mem_cons_self ..)
    have h2 := ih (fun a ha => he a (List.mem_cons_of_mem _ ha))
    rw [List.map_cons]
    rw [e] at e1 e2 e3
    rw [e]
    exact .cons e1 e2 (by rw [e3]; exact e4) (by rw [e3]; exact h2)

def inG (G : Nat → List Int) (x : Int) : Prop := ∃ k, k < 3 ∧ x ∈ G k
/-- Old, Eden and From: L; the objects in each: G. -/
structure HW (n m : Nat) (C : Nat → Cl) (f : Nat → Int) (L : Nat → Sp) (G : Nat → List Int) : Prop where
  ok : ∀ j, j < m → (C j).ok
  n4 : n ≤ 4095
  bd : ∀ j, j < 3 → 1 ≤ (L j).f ∧ (L j).f ≤ (L j).t ∧ (L j).t ≤ (L j).e ∧ (L j).e ≤ n
  sep : ∀ i j, i < 3 → j < 3 → i ≠ j → (L i).e ≤ (L j).f ∨ (L j).e ≤ (L i).f
  tile : ∀ j, j < 3 → Tl (atT n f m C) (L j).f (L j).t (G j)
  ref : ∀ a, inG G a → ∀ i : Nat, (i : Int) < oR n m C f a → f (a + 2 + i).toNat = 0 ∨ inG G (f (a + 2 + i).toNat)
section
variable {n m : Nat} {C : Nat → Cl} {f : Nat → Int} {L : Nat → Sp} {G : Nat → List Int}
theorem HW.obj (H : HW n m C f L G) {a : Int} {k : Nat} (hk : k < 3) (ha : a ∈ G k) : atT n f m C a = (⟨oH n m C f a, oR n m C f a, (atT n f m C a).1.data, oK n m C f a⟩, 0) ∧ (oH n m C f a).cls ≠ 0 ∧ (oH n m C f a).ok ∧ 0 ≤ oR n m C f a ∧ 2 + oR n m C f a ≤ oK n m C f a ∧ 1 ≤ a ∧ a + oK n m C f a ≤ n ∧ (L k).f ≤ a ∧ a + oK n m C f a ≤ (L k).t ∧ (atT n f m C a).1.data = oK n m C f a - 2 - oR n m C f a := by
  obtain ⟨b1, b2, b3, b4, b5⟩ := (H.tile k hk).bd a ha
  obtain ⟨c1, c2, c3, c4, c5, c6, c7, c8⟩ := at_ok H.ok b3
  have c9 := c8 b4
  have hh : (oH n m C f a).ok ∧ (oH n m C f a).cls ≠ 0 := by
    have hc : (oH n m C f a).cls ≠ 0 := by
      unfold Th.is at b4
      have : (atT n f m C a).1.hd.cls ≠ 0 := by simpa using b4
      exact this
    obtain ⟨_, q1, q2⟩ := at_cases b3
    refine ⟨?_, hc⟩
    unfold oH
    rcases q2 with ⟨_, _, e⟩ | ⟨_, _, _, _, _, e⟩ | ⟨_, _, _, _, e⟩ <;> (rw [e]; exact q1)
  refine ⟨?_, hh.2, hh.1, c4, ?_, c1, c3, b1, b2, ?_⟩
  · exact Prod.ext rfl b3
  · unfold oR oK; omega
  · unfold oR oK; omega
/-- Objects lie apart. -/
theorem HW.apart (H : HW n m C f L G) {a b : Int} (ha : inG G a) (hb : inG G b) (hne : a ≠ b) : a + oK n m C f a ≤ b ∨ b + oK n m C f b ≤ a := by
  obtain ⟨i, hi, hai⟩ := ha
  obtain ⟨j, hj, hbj⟩ := hb
  by_cases e : i = j
  · subst e
    exact (H.tile i hi).sep a b hai hbj hne
  · have h1 := H.obj hi hai
    have h2 := H.obj hj hbj
    have h3 := H.sep i j hi hj e
    have h4 := H.bd i hi
    have h5 := H.bd j hj
    omega
theorem HW.disj (H : HW n m C f L G) {a : Int} {i j : Nat} (hi : i < 3) (hj : j < 3) (hai : a ∈ G i) (haj : a ∈ G j) : i = j := by
  by_cases e : i = j
  · exact e
  · have h1 := H.obj hi hai
    have h2 := H.obj hj haj
    have h3 := H.sep i j hi hj e
    have h4 := H.bd i hi
    have h5 := H.bd j hj
    omega
/-- What stands at the objects is as it was but for heads: it is a heap still. -/
theorem HW.heads (H : HW n m C f L G) {g : Nat → Int} {hd : Int → Hd} (hat : ∀ x, inG G x → atT n g m C x = (⟨hd x, oR n m C f x, (atT n f m C x).1.data, oK n m C f x⟩, 0)) (hcl : ∀ x, inG G x → (hd x).cls = (oH n m C f x).cls)
    (hr : ∀ x, inG G x → ∀ i : Int, 1 ≤ i → i < oK n m C f x → g (x + i).toNat = f (x + i).toNat) : HW n m C g L G := by
  refine ⟨H.ok, H.n4, H.bd, H.sep, fun j hj => (H.tile j hj).congr (fun x hx => ?_), fun a ha i hi => ?_⟩
  · have h1 := H.obj hj hx
    have h2 := hat x ⟨j, hj, hx⟩
    rw [h2]
    refine ⟨rfl, ?_, rfl⟩
    unfold Th.is
    have := hcl x ⟨j, hj, hx⟩
    dsimp only
    rw [this]
    simpa using h1.2.1
  · obtain ⟨k, hk, hak⟩ := ha
    have h1 := H.obj hk hak
    have h2 := hat a ⟨k, hk, hak⟩
    have e : oR n m C g a = oR n m C f a := by show (atT n g m C a).1.refs = _; rw [h2]
    rw [e] at hi
    have h3 := hr a ⟨k, hk, hak⟩ (2 + i) (by omega) (by omega)
    rw [show a + (2 + (i : Int)) = a + 2 + i by omega] at h3
    rw [h3]
    exact H.ref a ⟨k, hk, hak⟩ i hi
/-- One head is written. -/
theorem HW.put_head (H : HW n m C f L G) {a : Int} (ha : inG G a) {h' : Hd} (hok : h'.ok) (hcl : h'.cls = (oH n m C f a).cls) :
    (∀ x, inG G x → atT n (putF f a.toNat (hdW h')) m C x = (⟨if x = a then h' else oH n m C f x, oR n m C f x, (atT n f m C x).1.data, oK n m C f x⟩, 0)) ∧
    (∀ x, inG G x → ∀ i : Int, 1 ≤ i → i < oK n m C f x → putF f a.toNat (hdW h') (x + i).toNat = f (x + i).toNat) ∧ HW n m C (putF f a.toNat (hdW h')) L G := by
  obtain ⟨k, hk, hak⟩ := ha
  have h1 := H.obj hk hak
  have hw : ∀ x, inG G x → ∀ i : Int, 0 ≤ i → i < oK n m C f x → (x ≠ a ∨ 1 ≤ i) → putF f a.toNat (hdW h') (x + i).toNat = f (x + i).toNat := fun x hx i i0 i1 hne => by
    obtain ⟨j, hj, hxj⟩ := hx
    have h2 := H.obj hj hxj
    refine putF_ne (fun e => ?_)
    by_cases e2 : x = a
    · omega
    · have := H.apart ⟨j, hj, hxj⟩ ⟨k, hk, hak⟩ e2
      omega
  have hat : ∀ x, inG G x → atT n (putF f a.toNat (hdW h')) m C x = (⟨if x = a then h' else oH n m C f x, oR n m C f x, (atT n f m C x).1.data, oK n m C f x⟩, 0) := fun x hx => by
    by_cases e : x = a
    · subst e
      rw [if_pos rfl]
      exact atM_to h1.2.1 h1.1 hok hcl h1.2.2.2.2.2.1 h1.2.2.2.2.2.2.1 (by omega) (putF_self ..) (hw x hx 1 (by omega) (by omega) (.inr (by omega)))
    · rw [if_neg e]
      obtain ⟨j, hj, hxj⟩ := hx
      have h2 := H.obj hj hxj
      rw [← h2.1]
      refine atT_same H.ok (by rw [h2.1]) (fun q q0 q1 => ?_)
      have q1 : (q : Int) < x + oK n m C f x := q1
      have := hw x ⟨j, hj, hxj⟩ (q - x) (by omega) (by omega) (.inl e)
      rw [show (x + (q - x) : Int).toNat = q by omega] at this
      exact this
  have hr := fun x hx i (i1 : (1 : Int) ≤ i) i2 => hw x hx i (by omega) i2 (.inr i1)
  refine ⟨hat, hr, H.heads hat (fun x hx => ?_) hr⟩
  by_cases e : x = a
  · rw [if_pos e, e]; exact hcl
  · rw [if_neg e]
/-- A head without a forward. -/
def fw0 (h : Hd) : Hd := { h with fwd := 0 }
theorem fw0_ok {h : Hd} (k : h.ok) : (fw0 h).ok := ⟨k.1, k.2.1, ⟨Int.le_refl _, show (0 : Int) < 4096 by decide⟩, k.2.2.2⟩
/-- The memory when no object of these is forwarded. -/
def frF (f : Nat → Int) : List Int → Nat → Int
  | [] => f
  | a :: l => frF (putF f a.toNat (hdW (fw0 (rawH (f a.toNat))))) l
theorem HW.head (H : HW n m C f L G) {a : Int} (ha : inG G a) : rawH (f a.toNat) = oH n m C f a := by
  obtain ⟨k, hk, hak⟩ := ha
  have h1 := H.obj hk hak
  obtain ⟨_, _, q2⟩ := at_cases (show (atT n f m C a).2 = 0 by rw [h1.1])
  unfold oH
  rcases q2 with ⟨_, _, e⟩ | ⟨_, _, _, _, _, e⟩ | ⟨_, _, _, _, e⟩ <;> rw [e]
theorem HW.fresh : ∀ (l : List Int) {f : Nat → Int}, HW n m C f L G → (∀ a, a ∈ l → inG G a) →
    (∀ x, inG G x → atT n (frF f l) m C x = (⟨if x ∈ l then fw0 (oH n m C f x) else oH n m C f x, oR n m C f x, (atT n f m C x).1.data, oK n m C f x⟩, 0)) ∧
    (∀ x, inG G x → ∀ i : Int, 1 ≤ i → i < oK n m C f x → frF f l (x + i).toNat = f (x + i).toNat) ∧ HW n m C (frF f l) L G
  | [], f, H, _ => ⟨fun x ⟨k, hk, hx⟩ => by rw [if_neg (by simp)]; exact (H.obj hk hx).1, fun _ _ _ _ _ => rfl, H⟩
  | a :: l, f, H, hl => by
    have ha := hl a (List.mem_cons_self ..)
    have hrw := H.head ha
    have hok : (oH n m C f a).ok := by obtain ⟨k, hk, hak⟩ := ha; exact (H.obj hk hak).2.2.1
    obtain ⟨g1, g2, g3⟩ := H.put_head (h' := fw0 (rawH (f a.toNat))) ha (by rw [hrw]; exact fw0_ok hok) (by rw [hrw]; rfl)
    obtain ⟨k1, k2, k3⟩ := HW.fresh l g3 (fun b hb => hl b (List.mem_cons_of_mem _ hb))
    have hK : ∀ x, inG G x → oK n m C (putF f a.toNat (hdW (fw0 (rawH (f a.toNat))))) x = oK n m C f x := fun x hx => by
      show (atT n _ m C x).1.words = _; rw [g1 x hx]
    refine ⟨fun x hx => ?_, fun x hx i i1 i2 => ?_, k3⟩
    · have e := k1 x hx
      have hR : oR n m C (putF f a.toNat (hdW (fw0 (rawH (f a.toNat))))) x = oR n m C f x := by
        show (atT n _ m C x).1.refs = _; rw [g1 x hx]
      have hH : oH n m C (putF f a.toNat (hdW (fw0 (rawH (f a.toNat))))) x = if x = a then fw0 (rawH (f a.toNat)) else oH n m C f x := by
        show (atT n _ m C x).1.hd = _; rw [g1 x hx]
      rw [hK x hx, hR, hH, g1 x hx] at e
      show atT n (frF _ l) m C x = _
      rw [e]
      by_cases e1 : x = a
      · subst e1
        rw [if_pos (List.mem_cons_self ..), if_pos rfl, hrw]
        split <;> rfl
      · rw [if_neg e1]
        by_cases e2 : x ∈ l
        · rw [if_pos e2, if_pos (List.mem_cons_of_mem _ e2)]
        · rw [if_neg e2, if_neg (fun h => (List.mem_cons.1 h).elim e1 e2)]
    · show frF _ l _ = _
      rw [k2 x hx i i1 (by rw [hK x hx]; exact i2)]
      exact g2 x hx i i1 i2
theorem HW.inG_of {x : Int} (h : x ∈ G 1 ++ G 2 ∨ x ∈ G 0) : inG G x := by
  rcases h with h | h
  · rcases List.mem_append.1 h with h | h
    · exact ⟨1, by omega, h⟩
    · exact ⟨2, by omega, h⟩
  · exact ⟨0, by omega, h⟩
theorem HW.of_inG {x : Int} (h : inG G x) : x ∈ G 1 ++ G 2 ∨ x ∈ G 0 := by
  obtain ⟨k, hk, h⟩ := h
  rcases (by omega : k = 0 ∨ k = 1 ∨ k = 2) with rfl | rfl | rfl
  · exact .inr h
  · exact .inl (List.mem_append_left _ h)
  · exact .inl (List.mem_append_right _ h)
def ygB (E F : Sp) (x : Int) : Bool := hasB E x || hasB F x
/-- To lies apart from the others. -/
structure ToOk (n : Nat) (L : Nat → Sp) (T0 : Sp) : Prop where
  bd : 1 ≤ T0.f ∧ T0.t = T0.f ∧ T0.f ≤ T0.e ∧ T0.e ≤ n
  sep : ∀ j, j < 3 → (L j).e ≤ T0.f ∨ T0.e ≤ (L j).f
theorem HW.young (H : HW n m C f L G) {a : Int} (ha : inG G a) : ygB (L 1) (L 2) a = decide (a ∈ G 1 ++ G 2) := by
  have hn4 := H.n4
  have hbd : ∀ j, j < 3 → rightB (L j) = true := fun j hj => (rightB_iff _).2 (by have := H.bd j hj; omega)
  have h1 : hasB (L 1) a = true ↔ (L 1).f ≤ a ∧ a < (L 1).t := by rw [hasB_iff]; exact ⟨fun h => h.2, fun h => ⟨hbd 1 (by omega), h⟩⟩
  have h2 : hasB (L 2) a = true ↔ (L 2).f ≤ a ∧ a < (L 2).t := by rw [hasB_iff]; exact ⟨fun h => h.2, fun h => ⟨hbd 2 (by omega), h⟩⟩
  have hin : ∀ j, j < 3 → ((L j).f ≤ a ∧ a < (L j).t ↔ a ∈ G j) := fun j hj => by
    refine ⟨fun h => ?_, fun h => by have := H.obj hj h; omega⟩
    obtain ⟨k, hk, hak⟩ := ha
    by_cases e : k = j
    · rw [← e]; exact hak
    · have h3 := H.obj hk hak
      have h4 := H.sep k j hk hj e
      have h5 := H.bd k hk
      have h6 := H.bd j hj
      omega
  rw [hin 1 (by omega)] at h1
  rw [hin 2 (by omega)] at h2
  rw [Bool.eq_iff_iff, decide_eq_true_iff, List.mem_append]
  unfold ygB
  rw [Bool.or_eq_true, h1, h2]
theorem HW.wd (H : HW n m C f L G) (hfr : ∀ a, a ∈ G 1 ++ G 2 → (oH n m C f a).fwd = 0) {T0 : Sp} (hT : ToOk n L T0) : Wd n m C f (G 1 ++ G 2) (G 0) T0 (L 0) := by
  have hb0 := H.bd 0 (by omega)
  refine ⟨H.ok, fun a ha => ?_, hfr, fun a ha h0 => ?_, fun a a' ha ha' hne => H.apart (HW.inG_of ha) (HW.inG_of ha') hne, fun a ha => ?_, ⟨hT.bd.1, hT.bd.2.2.2⟩, ⟨by omega, hb0.2.2.2⟩, ?_, H.n4⟩
  · obtain ⟨k, hk, hak⟩ := HW.inG_of ha
    obtain ⟨q1, q2, q3, q4, q5, q6, q7, _⟩ := H.obj hk hak
    exact ⟨q1, q2, q3, q4, q5, q6, q7⟩
  · rcases List.mem_append.1 ha with h | h
    · have := H.disj (by omega) (by omega) h h0; omega
    · have := H.disj (by omega) (by omega) h h0; omega
  · obtain ⟨k, hk, hak⟩ := HW.inG_of ha
    have h1 := H.obj hk hak
    have h2 := H.bd k hk
    refine ⟨?_, ?_⟩
    · have := hT.sep k hk; omega
    · by_cases e : k = 0
      · subst e; omega
      · have := H.sep k 0 hk (by omega) e; omega
  · have := hT.sep 0 (by omega)
    have := hT.bd
    omega
theorem HW.yg (H : HW n m C f L G) (hroom : (L 1).t - (L 1).f + ((L 2).t - (L 2).f) ≤ (L 0).e - (L 0).t) : Yg n m C f (G 1 ++ G 2) (G 0) (L 0) (ygB (L 1) (L 2)) := by
  refine ⟨fun a ha => by rw [H.young (HW.inG_of (.inl ha))]; exact decide_eq_true ha, fun a ha => ?_, ?_, ?_⟩
  · rw [H.young (HW.inG_of (.inr ha))]
    refine decide_eq_false (fun h => ?_)
    rcases List.mem_append.1 h with h | h
    · have := H.disj (by omega) (by omega) h ha; omega
    · have := H.disj (by omega) (by omega) h ha; omega
  · refine List.nodup_append.2 ⟨(H.tile 1 (by omega)).nd, (H.tile 2 (by omega)).nd, fun a ha b hb e => ?_⟩
    subst e
    have := H.disj (by omega) (by omega) ha hb; omega
  · rw [List.map_append, List.sum_append]
    have h1 := (H.tile 1 (by omega)).sum
    have h2 := (H.tile 2 (by omega)).sum
    unfold oK
    omega
theorem HW.hcl (H : HW n m C f L G) : ∀ o, o ∈ G 1 ++ G 2 ∨ o ∈ G 0 → ∀ i : Nat, (i : Int) < oR n m C f o → f (o + 2 + i).toNat = 0 ∨ f (o + 2 + i).toNat ∈ G 1 ++ G 2 ∨ f (o + 2 + i).toNat ∈ G 0 := fun o ho i hi =>
  (H.ref o (HW.inG_of ho) i hi).imp_right HW.of_inG
/-- The spaces behind a run: Old, Eden, From. -/
def nxL (L : Nat → Sp) (s' : Sc) : Nat → Sp := fun j => if j = 0 then s'.od else if j = 1 then emp (L 1) else s'.tt
def nxG (G : Nat → List Int) (φ : Int → Int) (LT LO : List Int) : Nat → List Int := fun j => if j = 0 then G 0 ++ LO.map φ else if j = 1 then [] else LT.map φ
/-- What a run leaves is a heap. -/
theorem HW.next (H : HW n m C f L G) (hfr : ∀ a, a ∈ G 1 ++ G 2 → (oH n m C f a).fwd = 0) {T0 : Sp} (hT : ToOk n L T0) {φ : Int → Int} {sn : Int → Nat} {s : Sc} (I : Inv n m C f (G 1 ++ G 2) (G 0) T0 (L 0) φ sn s)
    (hs : ∀ o, o ∈ G 0 ∨ φ o ≠ 0 → sn (fm φ o) = (oR n m C f o).toNat) {LT LO : List Int} {Q : Int → Prop} (Y : Lay15 (oK n m C f) Q φ T0 (L 0) s LT LO) : HW n m C s.f (nxL L s) (nxG G φ LT LO) := by
  have V := H.wd hfr hT
  have hb0 := H.bd 0 (by omega)
  have hb1 := H.bd 1 (by omega)
  obtain ⟨t1, t2, t3, t4⟩ := I.to_
  obtain ⟨u1, u2, u3, u4⟩ := I.old_
  have hTb := hT.bd
  have hYD : ∀ o, o ∈ G 0 ∨ φ o ≠ 0 → o ∈ G 1 ++ G 2 ∨ o ∈ G 0 := fun o ho => ho.elim .inr (fun h => .inl (I.phi o h))
  have hat : ∀ o, o ∈ G 0 ∨ φ o ≠ 0 → (atT n s.f m C (fm φ o)).2 = 0 ∧ (atT n s.f m C (fm φ o)).1.is = true ∧ (atT n s.f m C (fm φ o)).1.words = oK n m C f o ∧ (atT n s.f m C (fm φ o)).1.refs = oR n m C f o := fun o ho => by
    obtain ⟨h, e, hok, hcl, _⟩ := I.at_place V ho
    have hc := (V.obj o (hYD o ho)).2.1
    rw [e]
    refine ⟨rfl, ?_, rfl, rfl⟩
    unfold Th.is
    dsimp only
    rw [hcl]
    simpa using hc
  have hfm : ∀ o, φ o ≠ 0 → fm φ o = φ o := fun o ho => if_neg ho
  have hin : ∀ x, x ∈ G 0 ∨ φ x ≠ 0 → inG (nxG G φ LT LO) (fm φ x) := fun x hx => by
    rcases hx with hx | hx
    · rw [(I.fmD V hx).2]
      exact ⟨0, by omega, List.mem_append_left _ hx⟩
    · rw [hfm x hx]
      rcases (Y.all x).1 hx with h | h
      · exact ⟨2, by omega, List.mem_map.2 ⟨x, h, rfl⟩⟩
      · exact ⟨0, by omega, List.mem_append_right _ (List.mem_map.2 ⟨x, h, rfl⟩)⟩
  have hof : ∀ x, inG (nxG G φ LT LO) x → ∃ o, (o ∈ G 0 ∨ φ o ≠ 0) ∧ fm φ o = x := fun x ⟨k, hk, hx⟩ => by
    rcases (by omega : k = 0 ∨ k = 1 ∨ k = 2) with rfl | rfl | rfl
    · rcases List.mem_append.1 hx with h | h
      · exact ⟨x, .inl h, (I.fmD V h).2⟩
      · obtain ⟨o, ho, e⟩ := List.mem_map.1 h
        have := (Y.all o).2 (.inr ho)
        exact ⟨o, .inr this, by rw [hfm o this]; exact e⟩
    · cases hx
    · obtain ⟨o, ho, e⟩ := List.mem_map.1 hx
      have := (Y.all o).2 (.inl ho)
      exact ⟨o, .inr this, by rw [hfm o this]; exact e⟩
  have hch : ∀ l : List Int, (∀ a, a ∈ l → φ a ≠ 0) → ∀ a, a ∈ l → (atT n s.f m C (φ a)).2 = 0 ∧ (atT n s.f m C (φ a)).1.is = true ∧ (atT n s.f m C (φ a)).1.words = oK n m C f a ∧ 1 ≤ oK n m C f a := fun l hl a ha => by
    have h0 := hl a ha
    obtain ⟨e1, e2, e3, _⟩ := hat a (.inr h0)
    rw [hfm a h0] at e1 e2 e3
    have := (V.obj a (.inl (I.phi a h0))).2.2.2
    exact ⟨e1, e2, e3, by omega⟩
  refine ⟨H.ok, H.n4, fun j hj => ?_, fun i j hi hj hne => ?_, fun j hj => ?_, fun a ha i hi => ?_⟩
  · rcases (by omega : j = 0 ∨ j = 1 ∨ j = 2) with rfl | rfl | rfl
    · show 1 ≤ s.od.f ∧ s.od.f ≤ s.od.t ∧ s.od.t ≤ s.od.e ∧ s.od.e ≤ n; omega
    · show 1 ≤ (L 1).f ∧ (L 1).f ≤ (L 1).f ∧ (L 1).f ≤ (L 1).e ∧ (L 1).e ≤ n; omega
    · show 1 ≤ s.tt.f ∧ s.tt.f ≤ s.tt.t ∧ s.tt.t ≤ s.tt.e ∧ s.tt.e ≤ n; omega
  · have hf : ∀ q, q < 3 → ((nxL L s) q).f = (if q = 2 then T0.f else (L q).f) ∧ ((nxL L s) q).e = (if q = 2 then T0.e else (L q).e) := fun q hq => by
      rcases (by omega : q = 0 ∨ q = 1 ∨ q = 2) with rfl | rfl | rfl
      · exact ⟨u1, u2⟩
      · exact ⟨rfl, rfl⟩
      · exact ⟨t1, t2⟩
    rw [(hf i hi).1, (hf i hi).2, (hf j hj).1, (hf j hj).2]
    by_cases ei : i = 2
    · rw [if_pos ei, if_pos ei, if_neg (by omega), if_neg (by omega)]
      exact (hT.sep j hj).symm
    · rw [if_neg ei, if_neg ei]
      by_cases ej : j = 2
      · rw [if_pos ej, if_pos ej]
        exact hT.sep i hi
      · rw [if_neg ej, if_neg ej]
        exact H.sep i j hi hj hne
  · rcases (by omega : j = 0 ∨ j = 1 ∨ j = 2) with rfl | rfl | rfl
    · show Tl _ s.od.f s.od.t (G 0 ++ LO.map φ)
      rw [u1]
      refine Tl.append ((H.tile 0 (by omega)).congr (fun x hx => ?_)) (Y.o.tl (hch LO (fun a ha => (Y.all a).2 (.inr ha))))
      obtain ⟨e1, e2, e3, _⟩ := hat x (.inl hx)
      rw [(I.fmD V hx).2] at e1 e2 e3
      exact ⟨e1, e2, e3⟩
    · exact .nil _
    · show Tl _ s.tt.f s.tt.t (LT.map φ)
      rw [t1]
      exact Y.t.tl (hch LT (fun a ha => (Y.all a).2 (.inl ha)))
  · obtain ⟨o, ho, rfl⟩ := hof a ha
    have hR : oR n m C s.f (fm φ o) = oR n m C f o := (hat o ho).2.2.2
    rw [hR] at hi
    have hk := (V.obj o (hYD o ho)).2.2.2
    have hw := I.word V hs ho (i := 2 + (i : Int)) (by omega) (by omega)
    rw [if_pos (by omega)] at hw
    rw [show fm φ o + 2 + (i : Int) = fm φ o + (2 + (i : Int)) by omega, hw]
    rcases H.hcl o (hYD o ho) i hi with h | h | h
    · left
      rw [show o + (2 + (i : Int)) = o + 2 + (i : Int) by omega, h]
      unfold fm; rw [if_pos (I.phi0 V)]
    · right
      rw [show o + (2 + (i : Int)) = o + 2 + (i : Int) by omega]
      exact hin _ (.inr (I.scd o ho i (by rw [hs o ho]; omega) _ rfl h))
    · right
      rw [show o + (2 + (i : Int)) = o + 2 + (i : Int) by omega]
      exact hin _ (.inl h)
end

end Go.Proofs.Ytabfbgkablbeeaa
