/- Layer 15, plain: what holds while young objects are moved. -/
import Derived.Test.YtabfbgkablbeeaaG16
import Derived.Test.YtabfbgkablbeeaaG17
set_option linter.all false

namespace Go.Proofs.Ytabfbgkablbeeaa
open Go.RowKit

/-- Where an address goes: 0, and what was not moved, to itself. -/
def fm (φ : Int → Int) (x : Int) : Int := if φ x = 0 then x else φ x
/-- A state: the memory, the space To, the space Old. -/
structure Sc where
  f : Nat → Int
  tt : Sp
  od : Sp
section
variable (n m : Nat) (C : Nat → Cl) (f0 : Nat → Int)
def oK (a : Int) : Int := (atT n f0 m C a).1.words
def oR (a : Int) : Int := (atT n f0 m C a).1.refs
def oH (a : Int) : Hd := (atT n f0 m C a).1.hd
end
/-- The i-th word of what a held, its first q references mapped. -/
def wdQ (f0 : Nat → Int) (φ : Int → Int) (q : Nat) (a i : Int) : Int := if 2 ≤ i ∧ i < 2 + q then fm φ (f0 (a + i).toNat) else f0 (a + i).toNat
/-- The world ahead of it: Y are the young objects, D the old ones. -/
structure Wd (n m : Nat) (C : Nat → Cl) (f0 : Nat → Int) (Y D : List Int) (T0 O0 : Sp) : Prop where
  ok : ∀ j, j < m → (C j).ok
  obj : ∀ a, a ∈ Y ∨ a ∈ D → atT n f0 m C a = (⟨oH n m C f0 a, oR n m C f0 a, (atT n f0 m C a).1.data, oK n m C f0 a⟩, 0) ∧ (oH n m C f0 a).cls ≠ 0 ∧ (oH n m C f0 a).ok ∧ 0 ≤ oR n m C f0 a ∧ 2 + oR n m C f0 a ≤ oK n m C f0 a ∧ 1 ≤ a ∧ a + oK n m C f0 a ≤ n
  fresh : ∀ a, a ∈ Y → (oH n m C f0 a).fwd = 0
  yd : ∀ a, a ∈ Y → a ∉ D
  sep : ∀ a a', a ∈ Y ∨ a ∈ D → a' ∈ Y ∨ a' ∈ D → a ≠ a' → a + oK n m C f0 a ≤ a' ∨ a' + oK n m C f0 a' ≤ a
  free : ∀ a, a ∈ Y ∨ a ∈ D → (a + oK n m C f0 a ≤ T0.f ∨ T0.e ≤ a) ∧ (a + oK n m C f0 a ≤ O0.t ∨ O0.e ≤ a)
  to0 : 1 ≤ T0.f ∧ T0.e ≤ n
  old0 : 1 ≤ O0.t ∧ O0.e ≤ n
  apart : T0.e ≤ O0.t ∨ O0.e ≤ T0.f
  n4 : n ≤ 4095
/-- In between. φ tells where the moved ones are, sn how many references of what lies at an address were scanned. -/
structure Inv (n m : Nat) (C : Nat → Cl) (f0 : Nat → Int) (Y D : List Int) (T0 O0 : Sp) (φ : Int → Int) (sn : Int → Nat) (s : Sc) : Prop where
  phi : ∀ x, φ x ≠ 0 → x ∈ Y
  young : ∀ a, a ∈ Y → s.f a.toNat = (if φ a = 0 then f0 a.toNat else hdW (fwdH (oH n m C f0 a) (φ a))) ∧ ∀ i : Int, 1 ≤ i → i < oK n m C f0 a → s.f (a + i).toNat = f0 (a + i).toNat
  olds : ∀ a, a ∈ D → ∀ i : Int, 0 ≤ i → i < oK n m C f0 a → s.f (a + i).toNat = wdQ f0 φ (sn a) a i
  news : ∀ a, φ a ≠ 0 → (∃ h, ((h = unm (oH n m C f0 a) ∧ O0.t ≤ φ a ∧ φ a + oK n m C f0 a ≤ O0.e) ∨ (h = olderH (unm (oH n m C f0 a)) ∧ T0.f ≤ φ a ∧ φ a + oK n m C f0 a ≤ T0.e)) ∧ s.f (φ a).toNat = hdW h) ∧ ∀ i : Int, 1 ≤ i → i < oK n m C f0 a → s.f (φ a + i).toNat = wdQ f0 φ (sn (φ a)) a i
  reg : ∀ a, φ a ≠ 0 → (T0.f ≤ φ a ∧ φ a + oK n m C f0 a ≤ s.tt.t) ∨ (O0.t ≤ φ a ∧ φ a + oK n m C f0 a ≤ s.od.t)
  bsep : ∀ a a', φ a ≠ 0 → φ a' ≠ 0 → a ≠ a' → φ a + oK n m C f0 a ≤ φ a' ∨ φ a' + oK n m C f0 a' ≤ φ a
  to_ : s.tt.f = T0.f ∧ s.tt.e = T0.e ∧ T0.f ≤ s.tt.t ∧ s.tt.t ≤ T0.e
  old_ : s.od.f = O0.f ∧ s.od.e = O0.e ∧ O0.t ≤ s.od.t ∧ s.od.t ≤ O0.e
  scd : ∀ a, a ∈ D ∨ φ a ≠ 0 → ∀ i : Nat, i < sn (fm φ a) → ∀ x, x = f0 (a + 2 + i).toNat → x ∈ Y → φ x ≠ 0
  sn0 : ∀ b, s.tt.t ≤ b ∧ b < T0.e ∨ s.od.t ≤ b ∧ b < O0.e → sn b = 0
def setφ (φ : Int → Int) (a b : Int) : Int → Int := fun x => if x = a then b else φ x
theorem fm_set {φ : Int → Int} {a b x : Int} (h : x ≠ a) : fm (setφ φ a b) x = fm φ x := by unfold fm setφ; rw [if_neg h]
section
variable {n m : Nat} {C : Nat → Cl} {f0 : Nat → Int} {Y D : List Int} {T0 O0 : Sp} {φ : Int → Int} {sn : Int → Nat} {s : Sc}
theorem Inv.wd_set (I : Inv n m C f0 Y D T0 O0 φ sn s) {a b : Int} (h0 : φ a = 0) (ha : a ∈ Y) {o : Int} (ho : o ∈ D ∨ φ o ≠ 0) (i : Int) : wdQ f0 (setφ φ a b) (sn (fm φ o)) o i = wdQ f0 φ (sn (fm φ o)) o i := by
  unfold wdQ
  by_cases h : 2 ≤ i ∧ i < 2 + (sn (fm φ o) : Int)
  · rw [if_pos h, if_pos h]
    refine fm_set (fun e => ?_)
    have := I.scd o ho (i - 2).toNat (by omega) (f0 (o + i).toNat) (by congr 2; omega) (by rw [e]; exact ha)
    rw [e] at this
    exact this h0
  · rw [if_neg h, if_neg h]
/-- A young object is moved. -/
theorem Inv.move (V : Wd n m C f0 Y D T0 O0) (I : Inv n m C f0 Y D T0 O0 φ sn s) {a : Int} (ha : a ∈ Y) (h0 : φ a = 0) {b : Int} {s' : Sc} {h1 : Hd}
    (hf : s'.f = mvF s.f a b (oK n m C f0 a) h1 (fwdH (oH n m C f0 a) b))
    (hcas0 : (b = s.tt.t ∧ b + oK n m C f0 a ≤ T0.e ∧ s'.tt = { s.tt with t := b + oK n m C f0 a } ∧ s'.od = s.od ∧ h1 = olderH (unm (oH n m C f0 a))) ∨ (b = s.od.t ∧ b + oK n m C f0 a ≤ O0.e ∧ s'.od = { s.od with t := b + oK n m C f0 a } ∧ s'.tt = s.tt ∧ h1 = unm (oH n m C f0 a))) :
    Inv n m C f0 Y D T0 O0 (setφ φ a b) sn s' := by
  have hcase : (b = s.tt.t ∧ b + oK n m C f0 a ≤ T0.e ∧ s'.tt = { s.tt with t := b + oK n m C f0 a } ∧ s'.od = s.od) ∨ (b = s.od.t ∧ b + oK n m C f0 a ≤ O0.e ∧ s'.od = { s.od with t := b + oK n m C f0 a } ∧ s'.tt = s.tt) :=
    hcas0.imp (fun h => ⟨h.1, h.2.1, h.2.2.1, h.2.2.2.1⟩) (fun h => ⟨h.1, h.2.1, h.2.2.1, h.2.2.2.1⟩)
  have hh : h1 = unm (oH n m C f0 a) ∨ h1 = olderH (unm (oH n m C f0 a)) := hcas0.elim (fun h => .inr h.2.2.2.2) (fun h => .inl h.2.2.2.2)
  have hreg : (h1 = unm (oH n m C f0 a) ∧ O0.t ≤ b ∧ b + oK n m C f0 a ≤ O0.e) ∨ (h1 = olderH (unm (oH n m C f0 a)) ∧ T0.f ≤ b ∧ b + oK n m C f0 a ≤ T0.e) := by
    have := I.to_
    have := I.old_
    rcases hcas0 with ⟨q1, q2, _, _, q5⟩ | ⟨q1, q2, _, _, q5⟩
    · exact .inr ⟨q5, by omega, q2⟩
    · exact .inl ⟨q5, by omega, q2⟩
  obtain ⟨e0, hc, hok, r0, hk2, a1, a2⟩ := V.obj a (.inl ha)
  obtain ⟨t1, t2, t3, t4⟩ := I.to_
  obtain ⟨u1, u2, u3, u4⟩ := I.old_
  have hfa := V.free a (.inl ha)
  have hap := V.apart
  have hT := V.to0
  have hO := V.old0
  have hn := V.n4
  obtain ⟨y1, y2⟩ := I.young a ha
  rw [if_pos h0] at y1
  have hw : (atT n f0 m C a).1.words = oK n m C f0 a := rfl
  have hsame : atT n s.f m C a = atT n f0 m C a := atT_same V.ok (by rw [e0]) (fun j j0 j1 => by
    rw [hw] at j1
    by_cases e : (j : Int) = a
    · have : j = a.toNat := by omega
      rw [this]; exact y1
    · have h := y2 (j - a) (by omega) (by omega)
      rw [show (a + (j - a) : Int).toNat = j by omega] at h
      exact h)
  have hb1 : 1 ≤ b ∧ b + oK n m C f0 a ≤ n := by rcases hcase with h | h <;> omega
  have hbr : (T0.f ≤ b ∧ b + oK n m C f0 a ≤ T0.e) ∨ (O0.t ≤ b ∧ b + oK n m C f0 a ≤ O0.e) := by rcases hcase with h | h <;> omega
  have hsep : b + oK n m C f0 a ≤ a ∨ a + oK n m C f0 a ≤ b := by omega
  have ok1 : h1.ok := by { rcases hh with rfl | rfl; { exact unm_ok hok }; { exact olderH_ok (unm_ok hok) } }
  have cl1 : h1.cls = (oH n m C f0 a).cls := by rcases hh with rfl | rfl <;> rfl
  obtain ⟨_, _, hin, hout⟩ := move_one (f := s.f) (b := b) (by rw [hsame]; exact e0) hc (by omega) a1 hb1.1 hb1.2 hsep ok1 (fwdH_ok hok (b := b) (by omega) (by omega)) cl1 rfl
  rw [← hf] at hin hout
  have hfar : ∀ j : Int, 0 ≤ j → ¬ (b ≤ j ∧ j < b + oK n m C f0 a) → j ≠ a → s'.f j.toNat = s.f j.toNat := fun j j0 j1 j2 => hout j.toNat (by omega) (by omega)
  have hobj : ∀ o, o ∈ Y ∨ o ∈ D → ∀ i : Int, 0 ≤ i → i < oK n m C f0 o → (o ≠ a ∨ 1 ≤ i) → s'.f (o + i).toNat = s.f (o + i).toNat := fun o ho i i0 i1 hi => by
    have hfo := V.free o ho
    have ho1 := (V.obj o ho).2.2.2.2.2.1
    refine hfar _ (by omega) (by omega) (fun e => ?_)
    by_cases hoa : o = a
    · omega
    · have := V.sep o a ho (.inl ha) hoa
      omega
  have hnew : ∀ o, φ o ≠ 0 → ∀ i : Int, 0 ≤ i → i < oK n m C f0 o → s'.f (φ o + i).toNat = s.f (φ o + i).toNat := fun o ho i i0 i1 => by
    have hr := I.reg o ho
    refine hfar _ (by omega) ?_ (fun e => by omega)
    rcases hcase with h | h <;> omega
  have hφ : ∀ o, o ≠ a → setφ φ a b o = φ o := fun o ho => if_neg ho
  have hφa : setφ φ a b a = b := if_pos rfl
  have hsn : sn b = 0 := I.sn0 b (by rcases hcase with h | h <;> omega)
  refine ⟨fun x hx => ?_, fun o ho => ?_, fun o ho i i0 i1 => ?_, fun o ho => ?_, fun o ho => ?_, fun o o' ho ho' hne => ?_, ?_, ?_, fun o ho i hi x hx hxY => ?_, fun c hc => ?_⟩
  · by_cases e : x = a
    · rw [e]; exact ha
    · rw [hφ x e] at hx; exact I.phi x hx
  · obtain ⟨z1, z2⟩ := I.young o ho
    refine ⟨?_, fun i i1 i2 => by rw [hobj o (.inl ho) i (by omega) i2 (.inr i1)]; exact z2 i i1 i2⟩
    by_cases e : o = a
    · subst e
      rw [hφa, if_neg (by omega), hf]
      unfold mvF
      rw [putF_self]
    · rw [hφ o e, ← z1]
      have hko := (V.obj o (.inl ho)).2.2.2
      have := hobj o (.inl ho) 0 (by omega) (by omega) (.inl e)
      rwa [Int.add_zero] at this
  · have hoa : o ≠ a := fun e => V.yd a ha (by rw [← e]; exact ho)
    have ho0 : φ o = 0 := by
      by_cases h : φ o = 0
      · exact h
      · exact absurd ho (V.yd o (I.phi o h))
    have h2 := I.wd_set (b := b) h0 ha (.inl ho) i
    have h3 : fm φ o = o := by unfold fm; rw [if_pos ho0]
    rw [h3] at h2
    rw [h2, hobj o (.inr ho) i i0 i1 (.inl hoa)]
    exact I.olds o ho i i0 i1
  · by_cases e : o = a
    · subst e
      rw [hφa]
      refine ⟨⟨h1, hreg, ?_⟩, fun i i1 i2 => ?_⟩
      · rw [hf]
        unfold mvF
        rw [putF_ne (by omega), putF_self]
      · rw [hin i i1 i2, y2 i i1 i2, hsn]
        unfold wdQ
        rw [if_neg (by omega)]
    · rw [hφ o e] at ho ⊢
      obtain ⟨⟨h, z1, z2⟩, z3⟩ := I.news o ho
      have hko := V.obj o (.inl (I.phi o ho))
      refine ⟨⟨h, z1, ?_⟩, fun i i1 i2 => ?_⟩
      · rw [← z2]
        have := hnew o ho 0 (by omega) (by omega)
        rwa [Int.add_zero] at this
      · have h2 := I.wd_set (b := b) h0 ha (.inr ho) i
        have h3 : fm φ o = φ o := by unfold fm; rw [if_neg ho]
        rw [h3] at h2
        rw [h2, hnew o ho i (by omega) i2]
        exact z3 i i1 i2
  · by_cases e : o = a
    · subst e
      rw [hφa]
      rcases hcase with ⟨h, h2, h3, h4⟩ | ⟨h, h2, h3, h4⟩
      · left; rw [h3]; dsimp only; omega
      · right; rw [h3]; dsimp only; omega
    · rw [hφ o e] at ho ⊢
      have hr := I.reg o ho
      rcases hcase with ⟨h, h2, h3, h4⟩ | ⟨h, h2, h3, h4⟩
      · rw [h3, h4]; dsimp only; omega
      · rw [h3, h4]; dsimp only; omega
  · by_cases e : o = a
    · by_cases e' : o' = a
      · exact absurd (e.trans e'.symm) hne
      · subst e
        rw [hφa, hφ o' e']
        rw [hφ o' e'] at ho'
        have hr := I.reg o' ho'
        rcases hcase with h | h <;> omega
    · by_cases e' : o' = a
      · subst e'
        rw [hφa, hφ o e]
        rw [hφ o e] at ho
        have hr := I.reg o ho
        rcases hcase with h | h <;> omega
      · rw [hφ o e, hφ o' e']
        rw [hφ o e] at ho
        rw [hφ o' e'] at ho'
        exact I.bsep o o' ho ho' hne
  · rcases hcase with ⟨h, h2, h3, h4⟩ | ⟨h, h2, h3, h4⟩
    · rw [h3]; dsimp only; omega
    · rw [h4]; exact I.to_
  · rcases hcase with ⟨h, h2, h3, h4⟩ | ⟨h, h2, h3, h4⟩
    · rw [h4]; exact I.old_
    · rw [h3]; dsimp only; omega
  · by_cases e : x = a
    · rw [e, hφa]; omega
    · rw [hφ x e]
      by_cases e2 : o = a
      · subst e2
        exfalso
        have : fm (setφ φ o b) o = b := by unfold fm; rw [hφa, if_neg (by omega)]
        rw [this, hsn] at hi
        omega
      · rw [fm_set e2] at hi
        rw [hφ o e2] at ho
        exact I.scd o ho i hi x hx hxY
  · refine I.sn0 c ?_
    rcases hcase with ⟨h, h2, h3, h4⟩ | ⟨h, h2, h3, h4⟩
    · rw [h3, h4] at hc; dsimp only at hc; omega
    · rw [h3, h4] at hc; dsimp only at hc; omega
def snS (sn : Int → Nat) (p : Int) (v : Nat) : Int → Nat := fun x => if x = p then v else sn x
/-- Where things are, they lie apart. -/
theorem Inv.apart (V : Wd n m C f0 Y D T0 O0) (I : Inv n m C f0 Y D T0 O0 φ sn s) {o o' : Int} (ho : o ∈ D ∨ φ o ≠ 0) (ho' : o' ∈ D ∨ φ o' ≠ 0) (hne : o ≠ o') : fm φ o + oK n m C f0 o ≤ fm φ o' ∨ fm φ o' + oK n m C f0 o' ≤ fm φ o := by
  have hD : ∀ q, q ∈ D → fm φ q = q := fun q hq => by
    unfold fm
    by_cases h : φ q = 0
    · rw [if_pos h]
    · exact absurd hq (V.yd q (I.phi q h))
  have hY : ∀ q, φ q ≠ 0 → fm φ q = φ q := fun q hq => by unfold fm; rw [if_neg hq]
  obtain ⟨t1, t2, t3, t4⟩ := I.to_
  obtain ⟨u1, u2, u3, u4⟩ := I.old_
  rcases ho with ho | ho
  · rcases ho' with ho' | ho'
    · rw [hD o ho, hD o' ho']
      exact V.sep o o' (.inr ho) (.inr ho') hne
    · rw [hD o ho, hY o' ho']
      have h1 := V.free o (.inr ho)
      have h2 := I.reg o' ho'
      have h3 := (V.obj o' (.inl (I.phi o' ho'))).2.2.2
      have h4 := (V.obj o (.inr ho)).2.2.2
      omega
  · rcases ho' with ho' | ho'
    · rw [hY o ho, hD o' ho']
      have h1 := V.free o' (.inr ho')
      have h2 := I.reg o ho
      have h3 := (V.obj o (.inl (I.phi o ho))).2.2.2
      have h4 := (V.obj o' (.inr ho')).2.2.2
      omega
    · rw [hY o ho, hY o' ho']
      exact I.bsep o o' ho ho' hne
/-- A young one's old place lies apart from where things are. -/
theorem Inv.apartY (V : Wd n m C f0 Y D T0 O0) (I : Inv n m C f0 Y D T0 O0 φ sn s) {o a : Int} (ho : o ∈ D ∨ φ o ≠ 0) (ha : a ∈ Y) : fm φ o + oK n m C f0 o ≤ a ∨ a + oK n m C f0 a ≤ fm φ o := by
  obtain ⟨t1, t2, t3, t4⟩ := I.to_
  obtain ⟨u1, u2, u3, u4⟩ := I.old_
  rcases ho with ho | ho
  · have h : φ o = 0 := by
      by_cases h : φ o = 0
      · exact h
      · exact absurd ho (V.yd o (I.phi o h))
    unfold fm
    rw [if_pos h]
    exact V.sep o a (.inr ho) (.inl ha) (fun e => V.yd a ha (by rw [← e]; exact ho))
  · unfold fm
    rw [if_neg ho]
    have h1 := V.free a (.inl ha)
    have h2 := I.reg o ho
    have h3 := (V.obj o (.inl (I.phi o ho))).2.2.2
    have h4 := (V.obj a (.inl ha)).2.2.2
    omega
/-- A reference more is scanned. -/
theorem Inv.scan1 (V : Wd n m C f0 Y D T0 O0) (I : Inv n m C f0 Y D T0 O0 φ sn s) {o : Int} (ho : o ∈ D ∨ φ o ≠ 0) {i : Nat} (hi : sn (fm φ o) = i) (hr : (i : Int) < oR n m C f0 o) {x : Int} (hx : x = f0 (o + 2 + i).toNat) (hok : x ∈ Y → φ x ≠ 0) {s' : Sc} (hf : s'.f = putF s.f (fm φ o + 2 + i).toNat (fm φ x)) (ht : s'.tt = s.tt) (hu : s'.od = s.od) :
    Inv n m C f0 Y D T0 O0 φ (snS sn (fm φ o) (i + 1)) s' := by
  have hYD : o ∈ Y ∨ o ∈ D := ho.elim (fun h => .inr h) (fun h => .inl (I.phi o h))
  obtain ⟨e0, hc, hok2, r0, hk2, a1, a2⟩ := V.obj o hYD
  obtain ⟨t1, t2, t3, t4⟩ := I.to_
  obtain ⟨u1, u2, u3, u4⟩ := I.old_
  have hT := V.to0
  have hO := V.old0
  have hp1 : 1 ≤ fm φ o := by
    rcases ho with h | h
    · have : φ o = 0 := by
        by_cases h2 : φ o = 0
        · exact h2
        · exact absurd h (V.yd o (I.phi o h2))
      unfold fm; rw [if_pos this]; exact a1
    · have h2 := I.reg o h
      unfold fm; rw [if_neg h]; omega
  have hfar : ∀ j : Int, 0 ≤ j → j ≠ fm φ o + 2 + i → s'.f j.toNat = s.f j.toNat := fun j j0 j1 => by rw [hf]; exact putF_ne (by omega)
  have hat : s'.f (fm φ o + 2 + i).toNat = fm φ x := by rw [hf]; exact putF_self ..
  have hsn : ∀ q, q ≠ fm φ o → snS sn (fm φ o) (i + 1) q = sn q := fun q hq => if_neg hq
  have hsp : snS sn (fm φ o) (i + 1) (fm φ o) = i + 1 := if_pos rfl
  have hne : ∀ q, q ∈ D ∨ φ q ≠ 0 → q ≠ o → fm φ q ≠ fm φ o := fun q hq h e => by
    have h1 := I.apart V hq ho h
    have hq2 : q ∈ Y ∨ q ∈ D := hq.elim (fun h => .inr h) (fun h => .inl (I.phi q h))
    have h2 := (V.obj q hq2).2.2.2
    omega
  -- the words of what is at another place, and of itself
  have hoth : ∀ q, q ∈ D ∨ φ q ≠ 0 → q ≠ o → ∀ t : Int, 0 ≤ t → t < oK n m C f0 q → s'.f (fm φ q + t).toNat = s.f (fm φ q + t).toNat := fun q hq h t q0 q1 => by
    have h1 := I.apart V hq ho h
    have hq2 : q ∈ Y ∨ q ∈ D := hq.elim (fun h => .inr h) (fun h => .inl (I.phi q h))
    have h2 := (V.obj q hq2).2.2.2
    have hqp : 1 ≤ fm φ q := by
      rcases hq with h | h
      · have : φ q = 0 := by
          by_cases h2 : φ q = 0
          · exact h2
          · exact absurd h (V.yd q (I.phi q h2))
        unfold fm; rw [if_pos this]; exact h2.2.2.1
      · have h2 := I.reg q h
        unfold fm; rw [if_neg h]; omega
    exact hfar _ (by omega) (by omega)
  have hself : ∀ t : Int, 0 ≤ t → t < oK n m C f0 o → s.f (fm φ o + t).toNat = wdQ f0 φ i o t → s'.f (fm φ o + t).toNat = wdQ f0 φ (i + 1) o t := fun t t0' t1' h => by
    by_cases e : t = 2 + i
    · subst e
      rw [show (fm φ o + (2 + (i : Int)) : Int).toNat = (fm φ o + 2 + i).toNat by omega, hat]
      unfold wdQ
      rw [if_pos (by omega), hx]
      congr 2
      omega
    · rw [hfar _ (by omega) (by omega), h]
      unfold wdQ
      by_cases h2 : 2 ≤ t ∧ t < 2 + (i : Int)
      · rw [if_pos h2, if_pos (by omega)]
      · rw [if_neg h2, if_neg (by omega)]
  refine ⟨I.phi, fun a ha => ?_, fun q hq t q0 q1 => ?_, fun q hq => ?_, ?_, I.bsep, by rw [ht]; exact I.to_, by rw [hu]; exact I.old_, fun q hq j hj y hy hyY => ?_, fun c hc => ?_⟩
  · obtain ⟨z1, z2⟩ := I.young a ha
    have hap := I.apartY V ho ha
    have hk := (V.obj a (.inl ha)).2.2.2
    refine ⟨by rw [hfar a (by omega) (by omega)]; exact z1, fun t q0 q1 => by rw [hfar _ (by omega) (by omega)]; exact z2 t q0 q1⟩
  · have hq0 : fm φ q = q := by
      have : φ q = 0 := by
        by_cases h : φ q = 0
        · exact h
        · exact absurd hq (V.yd q (I.phi q h))
      unfold fm; rw [if_pos this]
    have hz := I.olds q hq t q0 q1
    by_cases e : q = o
    · subst e
      rw [hq0] at hi hself hsp
      rw [show snS sn (fm φ q) (i + 1) q = i + 1 by rw [hq0]; exact hsp]
      exact hself t q0 q1 (by rw [← hi]; exact hz)
    · have h1 := hoth q (.inl hq) e t q0 q1
      rw [hq0] at h1
      rw [h1, hsn q (by have := hne q (.inl hq) e; rw [hq0] at this; exact this)]
      exact hz
  · have hq0 : fm φ q = φ q := by unfold fm; rw [if_neg hq]
    obtain ⟨⟨h, z1, z2⟩, z3⟩ := I.news q hq
    have hk := (V.obj q (.inl (I.phi q hq))).2.2.2
    by_cases e : q = o
    · subst e
      rw [hq0] at hi hself hsp hfar hp1
      refine ⟨⟨h, z1, by rw [hfar _ (by omega) (by omega)]; exact z2⟩, fun t q0 q1 => ?_⟩
      rw [show snS sn (fm φ q) (i + 1) (φ q) = i + 1 by rw [hq0]; exact hsp]
      exact hself t (by omega) q1 (by rw [← hi]; exact z3 t q0 q1)
    · have h1 := hoth q (.inr hq) e
      have h2 := hne q (.inr hq) e
      rw [hq0] at h1 h2
      rw [hsn _ h2]
      refine ⟨⟨h, z1, ?_⟩, fun t q0 q1 => by rw [h1 t (by omega) q1]; exact z3 t q0 q1⟩
      have := h1 0 (by omega) (by omega)
      rw [Int.add_zero] at this
      rw [this]; exact z2
  · rw [ht, hu]; exact I.reg
  · by_cases e : q = o
    · subst e
      rw [hsp] at hj
      rcases (by omega : j < i ∨ j = i) with h | rfl
      · exact I.scd q hq j (by omega) y hy hyY
      · rw [hy, ← hx]
        rw [hy, ← hx] at hyY
        exact hok hyY
    · rw [hsn _ (hne q hq e)] at hj
      exact I.scd q hq j hj y hy hyY
  · rw [ht, hu] at hc
    by_cases e : c = fm φ o
    · exfalso
      subst e
      rcases ho with h | h
      · have h2 : φ o = 0 := by
          by_cases h2 : φ o = 0
          · exact h2
          · exact absurd h (V.yd o (I.phi o h2))
        have h3 := V.free o (.inr h)
        unfold fm at hc
        rw [if_pos h2] at hc
        omega
      · have h3 := I.reg o h
        have h4 := V.apart
        unfold fm at hc
        rw [if_neg h] at hc
        omega
    · rw [hsn c e]
      exact I.sn0 c hc
end

end Go.Proofs.Ytabfbgkablbeeaa
