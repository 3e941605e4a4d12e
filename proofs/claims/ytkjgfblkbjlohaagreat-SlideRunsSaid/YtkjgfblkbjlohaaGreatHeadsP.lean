/- Layer 16, plain: heads that are set anew, one behind the other, in a world that was made. -/
import Derived.Test.YtkjgfblkbjlohaaGreatG41
set_option linter.all false

namespace Go.Proofs.YtkjgfblkbjlohaaGreat
open Go.RowKit

theorem St.fresh {w0 w w' : World} {ba bw n : Nat} {f0 f : Nat → Int} {bt : Nat} {A : Option Addr} {m cap : Nat} {C : Nat → Cl} {S : Nat → Prop} (h0 : St w0 ba bw n f0 bt A m cap C) (h : St w ba bw n f bt A m cap C) (k : Touch S w w') (hS : ∀ kk, S kk → w0.heap.size ≤ kk) : St w' ba bw n f bt A m cap C := by
  have l1 := h0.ar.lt1
  have l2 := h0.ar.lt2
  have l3 := h0.tb.head.lt
  refine ⟨h.ar.touch k (fun q => by have := hS _ q; omega) (fun q => by have := hS _ q; omega), ⟨h.tb.head.touch k (fun q => by have := hS _ q; omega), ?_, h.tb.le, h.tb.ok⟩, h.ne, h.neA⟩
  rcases Nat.eq_zero_or_pos m with e | e
  · subst e; exact fun hn => by omega
  · obtain ⟨b, off, rfl, hb, _⟩ := h0.tb.body (by omega)
    exact h.tb.body.keepS k (fun b' off' e2 q => by
      simp only [Option.some.injEq, Addr.mk.injEq, and_true] at e2
      obtain ⟨rfl, rfl⟩ := e2
      have := hS _ q; omega)
theorem Rd.lt_ {w : World} {A : Option Addr} {n : Nat} {F : Nat → Value} (h : Rd w A n F) (hn : 0 < n) {b off : Nat} (e : A = some ⟨b, off, none⟩) : b < w.heap.size := by
  obtain ⟨b', off', e', hb, _⟩ := h hn
  rw [e] at e'
  simp only [Option.some.injEq, Addr.mk.injEq, and_true] at e'
  obtain ⟨rfl, rfl⟩ := e'
  exact hb
theorem putF_keep {f : Nat → Int} {c : Nat} {v : Int} : ∀ j, j ≠ c → putF f c v j = f j := fun _ hj => putF_ne hj
/-- Tiles, but for an object's head. -/
theorem Tiles.headed {n m : Nat} {f : Nat → Int} {C : Nat → Cl} (hC : ∀ j, j < m → (C j).ok) {a z : Int} {X : List Int} (h : Tiles (atT n f m C) a z X) {b : Int} (hb : b ∈ X) {h0 h' : Hd} {r d k : Int} (hc : h0.cls ≠ 0) (e : atT n f m C b = (⟨h0, r, d, k⟩, 0)) (hk : h'.ok) (hcl : h'.cls = h0.cls) :
    Tiles (atT n (putF f b.toNat (hdW h')) m C) a z X := by
  induction h with
  | nil a => cases hb
  | cons k1 k2 k3 ih =>
    rename_i a z L
    have ka := (at_ok hC k1).1
    have hrest : ∀ x, x ∈ L → a + (atT n f m C a).1.words ≤ x := fun x hx => (k3.bd hC hx).1
    by_cases e1 : a = b
    · subst e1
      have e2 : atT n (putF f a.toNat (hdW h')) m C a = (⟨h', r, d, k⟩, 0) := atT_head hc e hk hcl (putF_self ..) (putF_ne (by omega))
      rw [e] at k2 k3 ⊢
      dsimp only at k2 k3
      have i0 : (⟨h0, r, d, k⟩ : Th).is = (⟨h', r, d, k⟩ : Th).is := by unfold Th.is; rw [hcl]
      rw [i0]
      have k3' : Tiles (atT n (putF f a.toNat (hdW h')) m C) (a + k) z L := k3.congr hC (fun j j1 j2 => putF_ne (by omega))
      have := Tiles.cons (T := atT n (putF f a.toNat (hdW h')) m C) (a := a) (z := z) (L := L) (by rw [e2]) (by rw [e2]; exact k2) (by rw [e2]; exact k3')
      rw [e2] at this
      exact this
    · have hbL : b ∈ L := by
        cases hi : (atT n f m C a).1.is with
        | false => rw [hi, if_neg (by decide)] at hb; exact hb
        | true =>
          rw [hi, if_pos rfl] at hb
          rcases List.mem_cons.1 hb with hb | hb
          · exact absurd hb.symm e1
          · exact hb
      have hlow := hrest b hbL
      have e2 : atT n (putF f b.toNat (hdW h')) m C a = atT n f m C a := atT_same hC k1 (fun j j1 j2 => putF_ne (by omega))
      have hih := ih hbL
      rw [← e2] at k1 k2 hih ⊢
      exact .cons k1 k2 hih
theorem LInv.sep {n m : Nat} {f : Nat → Int} {C : Nat → Cl} {L : Nat → Sp} {G : Nat → List Int} {ats : List Int} (hC : ∀ j, j < m → (C j).ok) (h : LInv n m f C L G ats) {a x : Int} (ha : a ∈ ats) (hx : x ∈ ats) (e : x ≠ a) : x + (atT n f m C x).1.words ≤ a ∨ a + (atT n f m C a).1.words ≤ x := by
  obtain ⟨k, hk, hm, b1, b2, b3, b4, b5, b6⟩ := h.in_ hC ha
  obtain ⟨j, hj, hmj, d1, d2, d3, d4, d5, d6⟩ := h.in_ hC hx
  have hRk := (rightB_iff _).1 (h.rise k hk).1
  have hRj := (rightB_iff _).1 (h.rise j hj).1
  rcases Nat.lt_trichotomy j k with s | s | s
  · have := rise_sep h.rise s hk; omega
  · subst s
    have hs := ((h.tile j hj).walk.sep hC).2
    rcases Int.lt_trichotomy x a with s2 | s2 | s2
    · exact .inl (hs x hmj a hm s2)
    · exact absurd s2 e
    · exact .inr (hs a hm x hmj s2)
  · have := rise_sep h.rise s hj; omega
theorem LInv.obj {n m : Nat} {f : Nat → Int} {C : Nat → Cl} {L : Nat → Sp} {G : Nat → List Int} {ats : List Int} (hC : ∀ j, j < m → (C j).ok) (hI : LInv n m f C L G ats) {a : Int} (ha : a ∈ ats) : ∃ h r d k, atT n f m C a = (⟨h, r, d, k⟩, 0) ∧ h.cls ≠ 0 ∧ h.ok ∧ 0 ≤ r ∧ 0 ≤ d ∧ k = 2 + r + d ∧ 1 ≤ a ∧ a + k ≤ n := by
  obtain ⟨j, _, _, _, _, q3, q4, _⟩ := hI.in_ hC ha
  obtain ⟨b1, b2, b3, b4, b5, b6, b7, b8⟩ := at_ok hC q3
  have b8 := b8 q4
  have hO := obj_hd (n := n) (m := m) (f := f) (C := C) (a := a) (by rw [objP_obj q3 q4]; exact q3)
  rw [objP_obj q3 q4] at hO
  refine ⟨(atT n f m C a).1.hd, (atT n f m C a).1.refs, (atT n f m C a).1.data, (atT n f m C a).1.words, ?_, ?_, ?_, b4, b6, b8, b1, b3⟩
  · rw [← q3]
  · intro h
    unfold Th.is at q4
    rw [h] at q4
    exact absurd q4 (by decide)
  · rw [hO.1]; exact hO.2
/-- An object gets another head of its class: the world is as good as it was; all other objects are what they were. -/
theorem LInv.headed {n m : Nat} {f : Nat → Int} {C : Nat → Cl} {L : Nat → Sp} {G : Nat → List Int} {ats : List Int} (hC : ∀ j, j < m → (C j).ok) (h : LInv n m f C L G ats) {a : Int} (ha : a ∈ ats) {h0 h' : Hd} {r d k : Int} (hc : h0.cls ≠ 0) (e : atT n f m C a = (⟨h0, r, d, k⟩, 0)) (hk : h'.ok) (hcl : h'.cls = h0.cls) (hvi : I64 (hdW h')) :
    LInv n m (putF f a.toNat (hdW h')) C L G ats ∧ atT n (putF f a.toNat (hdW h')) m C a = (⟨h', r, d, k⟩, 0) ∧ (∀ x, x ∈ ats → x ≠ a → atT n (putF f a.toNat (hdW h')) m C x = atT n f m C x) ∧
    (∀ x, x ∈ ats → refsOf (putF f a.toNat (hdW h')) x (objP (atT n (putF f a.toNat (hdW h')) m C x)).1.refs.toNat = refsOf f x (objP (atT n f m C x)).1.refs.toNat) := by
  obtain ⟨q, hq, hm, b1, b2, b3, b4, b5, b6⟩ := h.in_ hC ha
  have hRk := (rightB_iff _).1 (h.rise q hq).1
  have e2 : atT n (putF f a.toNat (hdW h')) m C a = (⟨h', r, d, k⟩, 0) := atT_head hc e hk hcl (putF_self ..) (putF_ne (by omega))
  have hT : ∀ j, j < 3 → Tiles (atT n (putF f a.toNat (hdW h')) m C) (L j).f (L j).t (G j) := fun j hj => by
    by_cases e1 : j = q
    · subst e1
      exact (h.tile j hj).headed hC hm hc e hk hcl
    · refine (h.tile j hj).congr hC (fun i i1 i2 => putF_ne (fun e2 => ?_))
      have hRj := (rightB_iff _).1 (h.rise j hj).1
      rcases Nat.lt_trichotomy j q with s | s | s
      · have := rise_sep h.rise s hq; omega
      · exact e1 s
      · have := rise_sep h.rise s hj; omega
  have hoth : ∀ x, x ∈ ats → x ≠ a → atT n (putF f a.toNat (hdW h')) m C x = atT n f m C x ∧ refsOf (putF f a.toNat (hdW h')) x (objP (atT n (putF f a.toNat (hdW h')) m C x)).1.refs.toNat = refsOf f x (objP (atT n f m C x)).1.refs.toNat := fun x hx hne => by
    have hs := h.sep hC ha hx hne
    obtain ⟨j, hj, hmj, d1, d2, d3, d4, d5, d6⟩ := h.in_ hC hx
    exact obj_same hC d3 d4 (fun i i1 i2 => putF_ne (by omega))
  have href : ∀ x, x ∈ ats → refsOf (putF f a.toNat (hdW h')) x (objP (atT n (putF f a.toNat (hdW h')) m C x)).1.refs.toNat = refsOf f x (objP (atT n f m C x)).1.refs.toNat := fun x hx => by
    by_cases hne : x = a
    · subst hne
      rw [e2, e, objP_same (fun hh => hc (by rw [← hcl]; exact hh.2)), objP_same (fun hh => hc hh.2)]
      exact refsOf_congr (fun i hi => putF_ne (by omega))
    · exact (hoth x hx hne).2
  exact ⟨⟨h.rise, h.ends, hT, h.mem, h.nd, i64_putF h.i64 hvi, fun x hx y hy => h.ref x hx y (by rw [← href x hx]; exact hy)⟩, e2, fun x hx hne => (hoth x hx hne).1, href⟩
/-- The heads of what stays, with the forward part i: the first k of them are set. -/
def fwH (h : Hd) (i : Nat) : Hd := { h with fwd := i }
def fwF (n m : Nat) (f : Nat → Int) (C : Nat → Cl) (stay : List Int) : Nat → Nat → Int
  | 0 => f
  | k + 1 => putF (fwF n m f C stay k) (gt0 stay k).toNat (hdW (fwH (atT n f m C (gt0 stay k)).1.hd k))
theorem fwH_ok {h : Hd} (hk : h.ok) {i : Nat} (hi : i ≤ 4095) : (fwH h i).ok := by
  unfold fwH
  exact ⟨hk.1, hk.2.1, ⟨by show (0 : Int) ≤ (i : Int); omega, by show ((i : Nat) : Int) < 4096; omega⟩, hk.2.2.2⟩
theorem hdW_i64 {h : Hd} (hk : h.ok) : I64 (hdW h) := by
  have := hdW_bd hk
  exact ⟨by omega, by omega⟩
structure Fwd (n m : Nat) (f : Nat → Int) (C : Nat → Cl) (L : Nat → Sp) (G : Nat → List Int) (ats stay : List Int) (k : Nat) : Prop where
  inv : LInv n m (fwF n m f C stay k) C L G ats
  st : Stays n m (fwF n m f C stay k) C ats stay
  set_ : ∀ i, i < k → ∃ h r d z, atT n f m C (gt0 stay i) = (⟨h, r, d, z⟩, 0) ∧ h.cls ≠ 0 ∧ h.ok ∧ atT n (fwF n m f C stay k) m C (gt0 stay i) = (⟨fwH h i, r, d, z⟩, 0)
  rest : ∀ i, k ≤ i → i < stay.length → atT n (fwF n m f C stay k) m C (gt0 stay i) = atT n f m C (gt0 stay i)
theorem fwd_ok {n m : Nat} {f : Nat → Int} {C : Nat → Cl} {L : Nat → Sp} {G : Nat → List Int} {ats stay : List Int} (hC : ∀ j, j < m → (C j).ok) (hI : LInv n m f C L G ats) (hS : Stays n m f C ats stay) (hl : stay.length ≤ 4095) : ∀ k, k ≤ stay.length → Fwd n m f C L G ats stay k := by
  intro k
  induction k with
  | zero => exact fun _ => ⟨hI, hS, fun i hi => by omega, fun i _ _ => rfl⟩
  | succ k ih =>
    intro hk
    have h := ih (by omega)
    have hm : gt0 stay k ∈ ats := hS.inn _ (gt0_mem (by omega))
    obtain ⟨hd, r, d, z, e, hc, hok, _, _, _, _, _⟩ := hI.obj hC hm
    have e1 : atT n (fwF n m f C stay k) m C (gt0 stay k) = (⟨hd, r, d, z⟩, 0) := by rw [h.rest k (Nat.le_refl _) (by omega)]; exact e
    have hok' := fwH_ok hok (i := k) (by omega)
    obtain ⟨u1, u2, u3, u4⟩ := h.inv.headed hC hm hc e1 hok' rfl (hdW_i64 hok')
    have hF : fwF n m f C stay (k + 1) = putF (fwF n m f C stay k) (gt0 stay k).toNat (hdW (fwH hd k)) := by
      show putF _ _ (hdW (fwH (atT n f m C (gt0 stay k)).1.hd k)) = _
      rw [e]
    have hinj : ∀ i, i < stay.length → i ≠ k → gt0 stay i ≠ gt0 stay k := fun i hi hne he => hne (stay_inj hS.rise hi (by omega) he)
    rw [← hF] at u1 u2 u3 u4
    refine ⟨u1, ⟨hS.rise, hS.inn, fun a ha x hx => h.st.ref a ha x ?_⟩, fun i hi => ?_, fun i hi hi2 => ?_⟩
    · rw [← u4 a (hS.inn a ha)]; exact hx
    · by_cases hik : i = k
      · subst hik
        exact ⟨hd, r, d, z, e, hc, hok, u2⟩
      · obtain ⟨h1, r1, d1, z1, q1, q2, q3, q4⟩ := h.set_ i (by omega)
        refine ⟨h1, r1, d1, z1, q1, q2, q3, ?_⟩
        rw [u3 _ (hS.inn _ (gt0_mem (by omega))) (hinj i (by omega) hik)]
        exact q4
    · rw [u3 _ (hS.inn _ (gt0_mem hi2)) (hinj i hi2 (by omega))]
      exact h.rest i (by omega) hi2

end Go.Proofs.YtkjgfblkbjlohaaGreat
