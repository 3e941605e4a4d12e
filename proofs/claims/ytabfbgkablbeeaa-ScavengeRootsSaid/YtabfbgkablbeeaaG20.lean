/- Layer 15, plain: all that was moved is scanned, in order. -/
import Derived.Test.YtabfbgkablbeeaaG19
set_option linter.all false

namespace Go.Proofs.Ytabfbgkablbeeaa
open Go.RowKit

def rfs (f : Nat → Int) (a : Int) (r : Nat) : List Int := (List.range r).map fun i : Nat => f (a + 2 + (i : Int)).toNat
/-- An object is scanned: the state, where the next one begins. -/
def scn (n m : Nat) (C : Nat → Cl) (yg : Int → Bool) (thr : Int) (s : Sc) (a : Int) : Sc × Int :=
  (scanR (mvd n m C yg thr) a 0 (rfs s.f a (atT n s.f m C a).1.refs.toNat) s, a + (atT n (scanR (mvd n m C yg thr) a 0 (rfs s.f a (atT n s.f m C a).1.refs.toNat) s).f m C a).1.words)
section
variable {n m : Nat} {C : Nat → Cl} {f0 : Nat → Int} {Y D : List Int} {T0 O0 : Sp} {φ : Int → Int} {sn : Int → Nat} {s : Sc} {yg : Int → Bool} {thr : Int}
theorem Inv.fmD (V : Wd n m C f0 Y D T0 O0) (I : Inv n m C f0 Y D T0 O0 φ sn s) {o : Int} (h : o ∈ D) : φ o = 0 ∧ fm φ o = o := by
  have : φ o = 0 := by
    by_cases h2 : φ o = 0
    · exact h2
    · exact absurd h (V.yd o (I.phi o h2))
  exact ⟨this, by unfold fm; rw [if_pos this]⟩
/-- What lies where a thing is now. -/
theorem Inv.at_place (V : Wd n m C f0 Y D T0 O0) (I : Inv n m C f0 Y D T0 O0 φ sn s) {o : Int} (ho : o ∈ D ∨ φ o ≠ 0) : ∃ h, atT n s.f m C (fm φ o) = (⟨h, oR n m C f0 o, (atT n f0 m C o).1.data, oK n m C f0 o⟩, 0) ∧ h.ok ∧ h.cls = (oH n m C f0 o).cls ∧
    (o ∈ D → h = oH n m C f0 o) ∧ (φ o ≠ 0 → h = unm (oH n m C f0 o) ∨ h = olderH (unm (oH n m C f0 o))) := by
  rcases ho with ho | ho
  · obtain ⟨e0, hc, hok, r0, hk2, a1, a2⟩ := V.obj o (.inr ho)
    obtain ⟨p0, p1⟩ := I.fmD V ho
    rw [p1]
    refine ⟨oH n m C f0 o, ?_, hok, rfl, fun _ => rfl, fun h => absurd p0 h⟩
    have h0 := I.olds o ho 0 (by omega) (by omega)
    have h1 := I.olds o ho 1 (by omega) (by omega)
    unfold wdQ at h0 h1
    rw [if_neg (by omega), Int.add_zero] at h0
    rw [if_neg (by omega)] at h1
    rw [← e0]
    exact atT_two h0 h1
  · have hY := I.phi o ho
    obtain ⟨e0, hc, hok, r0, hk2, a1, a2⟩ := V.obj o (.inl hY)
    obtain ⟨⟨h, z1, z2⟩, z3⟩ := I.news o ho
    have hp : fm φ o = φ o := by unfold fm; rw [if_neg ho]
    have hr := I.reg o ho
    obtain ⟨t1, t2, t3, t4⟩ := I.to_
    obtain ⟨u1, u2, u3, u4⟩ := I.old_
    have hT := V.to0
    have hO := V.old0
    have hk : h.ok := by { rcases z1 with ⟨rfl, _⟩ | ⟨rfl, _⟩; { exact unm_ok hok }; { exact olderH_ok (unm_ok hok) } }
    have hcl : h.cls = (oH n m C f0 o).cls := by rcases z1 with ⟨rfl, _⟩ | ⟨rfl, _⟩ <;> rfl
    rw [hp]
    refine ⟨h, atM_to hc e0 hk hcl (by omega) (by omega) (by omega) z2 ?_, hk, hcl, fun hd => absurd hd (V.yd o hY), fun _ => z1.imp And.left And.left⟩
    have := z3 1 (by omega) (by omega)
    unfold wdQ at this
    rw [if_neg (by omega)] at this
    exact this
theorem scn_inv (V : Wd n m C f0 Y D T0 O0) (G : Yg n m C f0 Y D O0 yg) (hcl : ∀ o, o ∈ Y ∨ o ∈ D → ∀ i : Nat, (i : Int) < oR n m C f0 o → f0 (o + 2 + i).toNat = 0 ∨ f0 (o + 2 + i).toNat ∈ Y ∨ f0 (o + 2 + i).toNat ∈ D)
    (I : Inv n m C f0 Y D T0 O0 φ sn s) (A : Acc (oK n m C f0) Y T0 O0 φ s) {o : Int} (ho : o ∈ D ∨ φ o ≠ 0) (hs : sn (fm φ o) = 0) :
    ∃ φ', Inv n m C f0 Y D T0 O0 φ' (snS sn (fm φ o) (oR n m C f0 o).toNat) (scn n m C yg thr s (fm φ o)).1 ∧ Acc (oK n m C f0) Y T0 O0 φ' (scn n m C yg thr s (fm φ o)).1 ∧ (∀ a, φ a ≠ 0 → φ' a = φ a) ∧
      (∀ LT LO, Lay15 (oK n m C f0) (fun q => (oH n m C f0 q).age < thr) φ T0 O0 s LT LO → ∃ A B, Lay15 (oK n m C f0) (fun q => (oH n m C f0 q).age < thr) φ' T0 O0 (scn n m C yg thr s (fm φ o)).1 (LT ++ A) (LO ++ B)) ∧ (scn n m C yg thr s (fm φ o)).2 = fm φ o + oK n m C f0 o ∧
      ∀ P : Int → Prop, (∀ i : Nat, (i : Int) < oR n m C f0 o → P (f0 (o + 2 + i).toNat)) → (∀ a, φ a ≠ 0 → P a) → ∀ a, φ' a ≠ 0 → P a := by
  have hYD : o ∈ Y ∨ o ∈ D := ho.elim (fun h => .inr h) (fun h => .inl (I.phi o h))
  obtain ⟨e0, hc, hok, r0, hk2, a1, a2⟩ := V.obj o hYD
  obtain ⟨h, hat, _⟩ := I.at_place V ho
  have hlen : (rfs s.f (fm φ o) (oR n m C f0 o).toNat).length = (oR n m C f0 o).toNat := by unfold rfs; simp
  have hget : ∀ j, j < (rfs s.f (fm φ o) (oR n m C f0 o).toNat).length → (rfs s.f (fm φ o) (oR n m C f0 o).toNat).getD j 0 = f0 (o + 2 + ((0 + j : Nat) : Int)).toNat := fun j hj => by
    rw [hlen] at hj
    have h1 : (rfs s.f (fm φ o) (oR n m C f0 o).toNat).getD j 0 = s.f (fm φ o + 2 + (j : Int)).toNat := by
      unfold rfs
      rw [List.getD_eq_getElem?_getD, List.getElem?_map, List.getElem?_range hj]
      rfl
    rw [h1, Nat.zero_add]
    have h2 : s.f (fm φ o + (2 + (j : Int))).toNat = wdQ f0 φ 0 o (2 + (j : Int)) := by
      rcases ho with hd | hd
      · obtain ⟨p0, p1⟩ := I.fmD V hd
        have := I.olds o hd (2 + (j : Int)) (by omega) (by omega)
        rw [p1] at hs ⊢
        rw [hs] at this
        exact this
      · have hp : fm φ o = φ o := by unfold fm; rw [if_neg hd]
        have := (I.news o hd).2 (2 + (j : Int)) (by omega) (by omega)
        rw [hp] at hs ⊢
        rw [hs] at this
        exact this
    unfold wdQ at h2
    rw [if_neg (by omega)] at h2
    rw [show (fm φ o + 2 + (j : Int)) = fm φ o + (2 + (j : Int)) by omega, h2]
    congr 2
    omega
  obtain ⟨φ', J, B, hext, hL, hPr⟩ := scanR_inv (thr := thr) V G hcl (rfs s.f (fm φ o) (oR n m C f0 o).toNat) 0 φ sn s I A ho rfl hs (by rw [hlen]; omega) hget
  rw [hlen, Nat.zero_add] at J
  have hsc : (scn n m C yg thr s (fm φ o)).1 = scanR (mvd n m C yg thr) (fm φ o) 0 (rfs s.f (fm φ o) (oR n m C f0 o).toNat) s := by unfold scn; rw [hat]
  have ho' : o ∈ D ∨ φ' o ≠ 0 := ho.imp_right (fun h => by rw [hext o h]; exact h)
  have hp' : fm φ' o = fm φ o := by
    rcases ho with h | h
    · rw [(I.fmD V h).2, (J.fmD V h).2]
    · unfold fm; rw [hext o h]
  obtain ⟨h', hat', _⟩ := J.at_place V ho'
  rw [hp'] at hat'
  refine ⟨φ', by rw [hsc]; exact J, by rw [hsc]; exact B, hext, fun LT LO h => by rw [hsc]; exact hL LT LO h, ?_, fun P hp h => hPr P (fun j hj => by
    rw [hget j hj, Nat.zero_add]
    rw [hlen] at hj
    exact hp j (by omega)) h⟩
  unfold scn
  rw [hat]
  dsimp only
  rw [hat']
end
/-- The scanning of all that was moved: To first. -/
inductive ScR (n m : Nat) (C : Nat → Cl) (yg : Int → Bool) (thr : Int) : Int → Int → Sc → Sc → Prop
  | to_ {a b : Int} {s s' : Sc} : a < s.tt.t → ScR n m C yg thr (scn n m C yg thr s a).2 b (scn n m C yg thr s a).1 s' → ScR n m C yg thr a b s s'
  | old_ {a b : Int} {s s' : Sc} : ¬ a < s.tt.t → b < s.od.t → ScR n m C yg thr a (scn n m C yg thr s b).2 (scn n m C yg thr s b).1 s' → ScR n m C yg thr a b s s'
  | done {a b : Int} {s : Sc} : ¬ a < s.tt.t → ¬ b < s.od.t → ScR n m C yg thr a b s s

theorem Chain.ge {K φ : Int → Int} {x z : Int} {l : List Int} (h : Chain K φ x l z) (hk : ∀ a, a ∈ l → 1 ≤ K a) : x ≤ z ∧ ∀ a, a ∈ l → x ≤ φ a ∧ φ a + K a ≤ z := by
  induction h with
  | nil z => exact ⟨Int.le_refl _, fun a ha => by cases ha⟩
  | cons e _ ih =>
    rename_i c x z l h2
    obtain ⟨i1, i2⟩ := ih (fun a ha => hk a (List.mem_cons_of_mem _ ha))
    have hc := hk c (List.mem_cons_self ..)
    refine ⟨by omega, fun a ha => ?_⟩
    rcases List.mem_cons.1 ha with rfl | ha
    · omega
    · have := i2 a ha; omega
theorem Chain.split {K φ : Int → Int} : ∀ {l1 l2 : List Int} {x y z : Int}, Chain K φ x (l1 ++ l2) z → Chain K φ x l1 y → Chain K φ y l2 z
  | [], l2, x, y, z, h, h1 => by cases h1; exact h
  | c :: l1, l2, x, y, z, h, h1 => by
    cases h1 with
    | cons e1 k1 =>
      cases h with
      | cons e2 k2 => exact Chain.split k2 k1
theorem Chain.nil_of {K φ : Int → Int} {x z : Int} {l : List Int} (h : Chain K φ x l z) (hk : ∀ a, a ∈ l → 1 ≤ K a) (hz : ¬ x < z) : l = [] := by
  cases h with
  | nil => rfl
  | cons e k =>
    rename_i c l
    have h1 := (k.ge (fun a ha => hk a (List.mem_cons_of_mem _ ha))).1
    have h2 := hk c (List.mem_cons_self ..)
    omega
theorem Chain.head {K φ : Int → Int} {x z : Int} {l : List Int} (h : Chain K φ x l z) (hz : x < z) : ∃ o l', l = o :: l' ∧ φ o = x ∧ Chain K φ (x + K o) l' z := by
  cases h with
  | nil => omega
  | cons e k => exact ⟨_, _, rfl, e, k⟩
section
variable {n m : Nat} {C : Nat → Cl} {f0 : Nat → Int} {Y D : List Int} {T0 O0 : Sp} {yg : Int → Bool} {thr : Int}
/-- While it is scanned: what lies in To below a, and in Old's new end below b, was scanned; nothing behind. -/
structure SI (n m : Nat) (C : Nat → Cl) (thr : Int) (f0 : Nat → Int) (Y D : List Int) (T0 O0 : Sp) (a b : Int) (s : Sc) (φ : Int → Int) (sn : Int → Nat) (LT1 LT2 LO1 LO2 : List Int) : Prop where
  I : Inv n m C f0 Y D T0 O0 φ sn s
  A : Acc (oK n m C f0) Y T0 O0 φ s
  L : Lay15 (oK n m C f0) (fun q => (oH n m C f0 q).age < thr) φ T0 O0 s (LT1 ++ LT2) (LO1 ++ LO2)
  cT : Chain (oK n m C f0) φ T0.f LT1 a
  cO : Chain (oK n m C f0) φ O0.t LO1 b
  hD : ∀ o, o ∈ D → sn o = (oR n m C f0 o).toNat
  hS : ∀ o, o ∈ LT1 ∨ o ∈ LO1 → sn (φ o) = (oR n m C f0 o).toNat
  hU : ∀ o, o ∈ LT2 ∨ o ∈ LO2 → sn (φ o) = 0
theorem SI.to_ (V : Wd n m C f0 Y D T0 O0) (G : Yg n m C f0 Y D O0 yg) (hcl : ∀ o, o ∈ Y ∨ o ∈ D → ∀ i : Nat, (i : Int) < oR n m C f0 o → f0 (o + 2 + i).toNat = 0 ∨ f0 (o + 2 + i).toNat ∈ Y ∨ f0 (o + 2 + i).toNat ∈ D) {a b : Int} {φ : Int → Int} {sn : Int → Nat} {s : Sc} {LT1 LT2 LO1 LO2 : List Int} (h : SI n m C thr f0 Y D T0 O0 a b s φ sn LT1 LT2 LO1 LO2) (h1 : a < s.tt.t) :
    ∃ o φ1 sn1 L1 L2 M1 M2, φ o ≠ 0 ∧ fm φ o = a ∧ sn (fm φ o) = 0 ∧ (scn n m C yg thr s a).2 = a + oK n m C f0 o ∧ SI n m C thr f0 Y D T0 O0 (a + oK n m C f0 o) b (scn n m C yg thr s a).1 φ1 sn1 L1 L2 M1 M2 ∧ (∀ x, φ x ≠ 0 → φ1 x = φ x) ∧
      ∀ P : Int → Prop, (∀ o, P o → o ∈ Y → ∀ i : Nat, (i : Int) < oR n m C f0 o → P (f0 (o + 2 + i).toNat)) → (∀ a, φ a ≠ 0 → P a) → ∀ a, φ1 a ≠ 0 → P a := by
  obtain ⟨I, A, L, cT, cO, hD, hS, hU⟩ := h
  have hK : ∀ o, o ∈ Y → 1 ≤ oK n m C f0 o := fun o ho => by have := (V.obj o (.inl ho)).2.2.2; omega
  have hY : ∀ o, o ∈ LT1 ++ LT2 ∨ o ∈ LO1 ++ LO2 → o ∈ Y := fun o ho => I.phi o ((L.all o).2 ho)
  have c2 := L.t.split cT
  obtain ⟨o, LT2', rfl, ho, c3⟩ := c2.head h1
  have hmo : o ∈ LT1 ++ o :: LT2' := List.mem_append_right _ (List.mem_cons_self ..)
  have hφo : φ o ≠ 0 := (L.all o).2 (.inl hmo)
  have hoY := I.phi o hφo
  have hko := hK o hoY
  have hfm : fm φ o = a := by unfold fm; rw [if_neg hφo]; exact ho
  have hU0 : sn (fm φ o) = 0 := by rw [hfm, ← ho]; exact hU o (.inl (List.mem_cons_self ..))
  obtain ⟨φ1, J, B, hext, hLx, hnx, hPx⟩ := scn_inv (thr := thr) V G hcl I A (.inr hφo) hU0
  rw [hfm] at J B hLx hnx
  obtain ⟨NA, NB, L1⟩ := hLx _ _ L
  have hφ1 : ∀ q, q ∈ LT1 ++ o :: LT2' ∨ q ∈ LO1 ++ LO2 → φ1 q = φ q := fun q hq => hext q ((L.all q).2 hq)
  have hY1 : ∀ q, q ∈ (LT1 ++ o :: LT2') ++ NA ∨ q ∈ (LO1 ++ LO2) ++ NB → q ∈ Y := fun q hq => J.phi q ((L1.all q).2 hq)
  have hinj : ∀ q, φ1 q ≠ 0 → φ1 q = a → q = o := fun q hq he => by
    by_cases e : q = o
    · exact e
    · have h3 : φ1 o = a := by rw [hφ1 o (.inl hmo)]; exact ho
      have := J.bsep q o hq (by rw [h3, ← ho]; exact hφo) e
      have := hK q (J.phi q hq)
      omega
  obtain ⟨t1, t2, t3, t4⟩ := J.to_
  obtain ⟨u1, u2, u3, u4⟩ := J.old_
  have cT1 : Chain (oK n m C f0) φ1 T0.f (LT1 ++ [o]) (a + oK n m C f0 o) := (cT.ext (fun q hq => hφ1 q (.inl (List.mem_append_left _ hq)))).snoc (by rw [hφ1 o (.inl hmo)]; exact ho)
  have hw : Lay15 (oK n m C f0) (fun q => (oH n m C f0 q).age < thr) φ1 T0 O0 (scn n m C yg thr s a).1 ((LT1 ++ [o]) ++ (LT2' ++ NA)) (LO1 ++ (LO2 ++ NB)) := by
    have e1 : (LT1 ++ [o]) ++ (LT2' ++ NA) = (LT1 ++ o :: LT2') ++ NA := by simp
    have e2 : LO1 ++ (LO2 ++ NB) = (LO1 ++ LO2) ++ NB := by simp
    rw [e1, e2]; exact L1
  exact ⟨o, φ1, _, (LT1 ++ [o]), (LT2' ++ NA), LO1, (LO2 ++ NB), hφo, hfm, hU0, hnx, ⟨J, B, hw, cT1, (cO.ext (fun q hq => hφ1 q (.inr (List.mem_append_left _ hq)))),
    (fun q hq => by
      unfold snS
      by_cases e : q = a
      · exfalso
        have h3 := I.reg o hφo
        have h4 := V.free q (.inr hq)
        have h5 := (V.obj q (.inr hq)).2.2.2
        have := I.to_
        have := I.old_
        omega
      · rw [if_neg e]; exact hD q hq),
    (fun q hq => by
      have hq0 : φ1 q ≠ 0 := (L1.all q).2 (by
        rcases hq with hq | hq
        · rcases List.mem_append.1 hq with hq | hq
          · exact .inl (List.mem_append_left _ (List.mem_append_left _ hq))
          · rw [List.mem_singleton.1 hq]; exact .inl (List.mem_append_left _ hmo)
        · exact .inr (List.mem_append_left _ (List.mem_append_left _ hq)))
      unfold snS
      by_cases e : φ1 q = a
      · rw [if_pos e, hinj q hq0 e]
      · rw [if_neg e]
        rcases hq with hq | hq
        · rcases List.mem_append.1 hq with hq | hq
          · rw [hφ1 q (.inl (List.mem_append_left _ hq))]; exact hS q (.inl hq)
          · exfalso
            rw [List.mem_singleton.1 hq, hφ1 o (.inl hmo)] at e
            exact e ho
        · rw [hφ1 q (.inr (List.mem_append_left _ hq))]; exact hS q (.inr hq)),
    (fun q hq => by
      have hc5 := hw.t.split cT1
      have hg5 := (hc5.ge (fun q hq => hK q (hY1 q (.inl (by
        rcases List.mem_append.1 hq with h | h
        · exact List.mem_append_left _ (List.mem_append_right _ (List.mem_cons_of_mem _ h))
        · exact List.mem_append_right _ h))))).2
      have hcO := hw.o.split (cO.ext (fun q hq => hφ1 q (.inr (List.mem_append_left _ hq))))
      have hgO := (hcO.ge (fun q hq => hK q (hY1 q (.inr (by
        rcases List.mem_append.1 hq with h | h
        · exact List.mem_append_left _ (List.mem_append_right _ h)
        · exact List.mem_append_right _ h))))).2
      have cOge := (cO.ge (fun q hq => hK q (hY q (.inr (List.mem_append_left _ hq))))).1
      have hreg := I.reg o hφo
      have hap := V.apart
      have hIt := I.to_
      have hIo := I.old_
      have cTge := (cT.ge (fun q hq => hK q (hY q (.inl (List.mem_append_left _ hq))))).1
      unfold snS
      rcases hq with hq | hq
      · have h6 := hg5 q hq
        have hkq := hK q (hY1 q (.inl (by
          rcases List.mem_append.1 hq with h | h
          · exact List.mem_append_left _ (List.mem_append_right _ (List.mem_cons_of_mem _ h))
          · exact List.mem_append_right _ h)))
        rw [if_neg (by omega)]
        rcases List.mem_append.1 hq with hq | hq
        · rw [hφ1 q (.inl (List.mem_append_right _ (List.mem_cons_of_mem _ hq)))]
          exact hU q (.inl (List.mem_cons_of_mem _ hq))
        · have hcA := L1.t.split (L.t.ext (fun q hq => hφ1 q (.inl hq)))
          have h7 := (hcA.ge (fun q hq => hK q (hY1 q (.inl (List.mem_append_right _ hq))))).2 q hq
          exact I.sn0 _ (.inl (by omega))
      · have h6 := hgO q hq
        have hkq := hK q (hY1 q (.inr (by
          rcases List.mem_append.1 hq with h | h
          · exact List.mem_append_left _ (List.mem_append_right _ h)
          · exact List.mem_append_right _ h)))
        rw [if_neg (by omega)]
        rcases List.mem_append.1 hq with hq | hq
        · rw [hφ1 q (.inr (List.mem_append_right _ hq))]
          exact hU q (.inr hq)
        · have hcA := L1.o.split (L.o.ext (fun q hq => hφ1 q (.inr hq)))
          have h7 := (hcA.ge (fun q hq => hK q (hY1 q (.inr (List.mem_append_right _ hq))))).2 q hq
          exact I.sn0 _ (.inr (by omega)))⟩, hext, fun P hc h => hPx P (hc o (h o hφo) hoY) h⟩
theorem SI.old_ (V : Wd n m C f0 Y D T0 O0) (G : Yg n m C f0 Y D O0 yg) (hcl : ∀ o, o ∈ Y ∨ o ∈ D → ∀ i : Nat, (i : Int) < oR n m C f0 o → f0 (o + 2 + i).toNat = 0 ∨ f0 (o + 2 + i).toNat ∈ Y ∨ f0 (o + 2 + i).toNat ∈ D) {a b : Int} {φ : Int → Int} {sn : Int → Nat} {s : Sc} {LT1 LT2 LO1 LO2 : List Int} (h : SI n m C thr f0 Y D T0 O0 a b s φ sn LT1 LT2 LO1 LO2) (h1 : b < s.od.t) :
    ∃ o φ1 sn1 L1 L2 M1 M2, φ o ≠ 0 ∧ fm φ o = b ∧ sn (fm φ o) = 0 ∧ (scn n m C yg thr s b).2 = b + oK n m C f0 o ∧ SI n m C thr f0 Y D T0 O0 a (b + oK n m C f0 o) (scn n m C yg thr s b).1 φ1 sn1 L1 L2 M1 M2 ∧ (∀ x, φ x ≠ 0 → φ1 x = φ x) ∧
      ∀ P : Int → Prop, (∀ o, P o → o ∈ Y → ∀ i : Nat, (i : Int) < oR n m C f0 o → P (f0 (o + 2 + i).toNat)) → (∀ a, φ a ≠ 0 → P a) → ∀ a, φ1 a ≠ 0 → P a := by
  obtain ⟨I, A, L, cT, cO, hD, hS, hU⟩ := h
  have hK : ∀ o, o ∈ Y → 1 ≤ oK n m C f0 o := fun o ho => by have := (V.obj o (.inl ho)).2.2.2; omega
  have hY : ∀ o, o ∈ LT1 ++ LT2 ∨ o ∈ LO1 ++ LO2 → o ∈ Y := fun o ho => I.phi o ((L.all o).2 ho)
  have c2 := L.o.split cO
  obtain ⟨o, LO2', rfl, ho, c3⟩ := c2.head h1
  have hmo : o ∈ LO1 ++ o :: LO2' := List.mem_append_right _ (List.mem_cons_self ..)
  have hφo : φ o ≠ 0 := (L.all o).2 (.inr hmo)
  have hoY := I.phi o hφo
  have hko := hK o hoY
  have hfm : fm φ o = b := by unfold fm; rw [if_neg hφo]; exact ho
  have hU0 : sn (fm φ o) = 0 := by rw [hfm, ← ho]; exact hU o (.inr (List.mem_cons_self ..))
  obtain ⟨φ1, J, B, hext, hLx, hnx, hPx⟩ := scn_inv (thr := thr) V G hcl I A (.inr hφo) hU0
  rw [hfm] at J B hLx hnx
  obtain ⟨NA, NB, L1⟩ := hLx _ _ L
  have hφ1 : ∀ q, q ∈ LT1 ++ LT2 ∨ q ∈ LO1 ++ o :: LO2' → φ1 q = φ q := fun q hq => hext q ((L.all q).2 hq)
  have hY1 : ∀ q, q ∈ (LT1 ++ LT2) ++ NA ∨ q ∈ (LO1 ++ o :: LO2') ++ NB → q ∈ Y := fun q hq => J.phi q ((L1.all q).2 hq)
  have hinj : ∀ q, φ1 q ≠ 0 → φ1 q = b → q = o := fun q hq he => by
    by_cases e : q = o
    · exact e
    · have h3 : φ1 o = b := by rw [hφ1 o (.inr hmo)]; exact ho
      have := J.bsep q o hq (by rw [h3, ← ho]; exact hφo) e
      have := hK q (J.phi q hq)
      omega
  obtain ⟨t1, t2, t3, t4⟩ := J.to_
  obtain ⟨u1, u2, u3, u4⟩ := J.old_
  have cO1 : Chain (oK n m C f0) φ1 O0.t (LO1 ++ [o]) (b + oK n m C f0 o) := (cO.ext (fun q hq => hφ1 q (.inr (List.mem_append_left _ hq)))).snoc (by rw [hφ1 o (.inr hmo)]; exact ho)
  have hw : Lay15 (oK n m C f0) (fun q => (oH n m C f0 q).age < thr) φ1 T0 O0 (scn n m C yg thr s b).1 (LT1 ++ (LT2 ++ NA)) ((LO1 ++ [o]) ++ (LO2' ++ NB)) := by
    have e1 : (LO1 ++ [o]) ++ (LO2' ++ NB) = (LO1 ++ o :: LO2') ++ NB := by simp
    have e2 : LT1 ++ (LT2 ++ NA) = (LT1 ++ LT2) ++ NA := by simp
    rw [e1, e2]; exact L1
  exact ⟨o, φ1, _, LT1, (LT2 ++ NA), (LO1 ++ [o]), (LO2' ++ NB), hφo, hfm, hU0, hnx, ⟨J, B, hw, (cT.ext (fun q hq => hφ1 q (.inl (List.mem_append_left _ hq)))), cO1,
    (fun q hq => by
      unfold snS
      by_cases e : q = b
      · exfalso
        have h3 := I.reg o hφo
        have h4 := V.free q (.inr hq)
        have h5 := (V.obj q (.inr hq)).2.2.2
        have := I.to_
        have := I.old_
        omega
      · rw [if_neg e]; exact hD q hq),
    (fun q hq => by
      have hq0 : φ1 q ≠ 0 := (L1.all q).2 (by
        rcases hq with hq | hq
        · exact .inl (List.mem_append_left _ (List.mem_append_left _ hq))
        · rcases List.mem_append.1 hq with hq | hq
          · exact .inr (List.mem_append_left _ (List.mem_append_left _ hq))
          · rw [List.mem_singleton.1 hq]; exact .inr (List.mem_append_left _ hmo))
      unfold snS
      by_cases e : φ1 q = b
      · rw [if_pos e, hinj q hq0 e]
      · rw [if_neg e]
        rcases hq with hq | hq
        · rw [hφ1 q (.inl (List.mem_append_left _ hq))]; exact hS q (.inl hq)
        · rcases List.mem_append.1 hq with hq | hq
          · rw [hφ1 q (.inr (List.mem_append_left _ hq))]; exact hS q (.inr hq)
          · exfalso
            rw [List.mem_singleton.1 hq, hφ1 o (.inr hmo)] at e
            exact e ho),
    (fun q hq => by
      have hc5 := hw.o.split cO1
      have hg5 := (hc5.ge (fun q hq => hK q (hY1 q (.inr (by
        rcases List.mem_append.1 hq with h | h
        · exact List.mem_append_left _ (List.mem_append_right _ (List.mem_cons_of_mem _ h))
        · exact List.mem_append_right _ h))))).2
      have hcT := hw.t.split (cT.ext (fun q hq => hφ1 q (.inl (List.mem_append_left _ hq))))
      have hgT := (hcT.ge (fun q hq => hK q (hY1 q (.inl (by
        rcases List.mem_append.1 hq with h | h
        · exact List.mem_append_left _ (List.mem_append_right _ h)
        · exact List.mem_append_right _ h))))).2
      have cTge := (cT.ge (fun q hq => hK q (hY q (.inl (List.mem_append_left _ hq))))).1
      have hreg := I.reg o hφo
      have hap := V.apart
      have hIt := I.to_
      have hIo := I.old_
      have cOge := (cO.ge (fun q hq => hK q (hY q (.inr (List.mem_append_left _ hq))))).1
      unfold snS
      rcases hq with hq | hq
      · have h6 := hgT q hq
        have hkq := hK q (hY1 q (.inl (by
          rcases List.mem_append.1 hq with h | h
          · exact List.mem_append_left _ (List.mem_append_right _ h)
          · exact List.mem_append_right _ h)))
        rw [if_neg (by omega)]
        rcases List.mem_append.1 hq with hq | hq
        · rw [hφ1 q (.inl (List.mem_append_right _ hq))]
          exact hU q (.inl hq)
        · have hcA := L1.t.split (L.t.ext (fun q hq => hφ1 q (.inl hq)))
          have h7 := (hcA.ge (fun q hq => hK q (hY1 q (.inl (List.mem_append_right _ hq))))).2 q hq
          exact I.sn0 _ (.inl (by omega))
      · have h6 := hg5 q hq
        have hkq := hK q (hY1 q (.inr (by
          rcases List.mem_append.1 hq with h | h
          · exact List.mem_append_left _ (List.mem_append_right _ (List.mem_cons_of_mem _ h))
          · exact List.mem_append_right _ h)))
        rw [if_neg (by omega)]
        rcases List.mem_append.1 hq with hq | hq
        · rw [hφ1 q (.inr (List.mem_append_right _ (List.mem_cons_of_mem _ hq)))]
          exact hU q (.inr (List.mem_cons_of_mem _ hq))
        · have hcA := L1.o.split (L.o.ext (fun q hq => hφ1 q (.inr hq)))
          have h7 := (hcA.ge (fun q hq => hK q (hY1 q (.inr (List.mem_append_right _ hq))))).2 q hq
          exact I.sn0 _ (.inr (by omega)))⟩, hext, fun P hc h => hPx P (hc o (h o hφo) hoY) h⟩
theorem SI.done (V : Wd n m C f0 Y D T0 O0) {a b : Int} {φ : Int → Int} {sn : Int → Nat} {s : Sc} {LT1 LT2 LO1 LO2 : List Int} (h : SI n m C thr f0 Y D T0 O0 a b s φ sn LT1 LT2 LO1 LO2) (h1 : ¬ a < s.tt.t) (h2 : ¬ b < s.od.t) :
    Lay15 (oK n m C f0) (fun q => (oH n m C f0 q).age < thr) φ T0 O0 s LT1 LO1 ∧ ∀ o, o ∈ D ∨ φ o ≠ 0 → sn (fm φ o) = (oR n m C f0 o).toNat := by
  obtain ⟨I, A, L, cT, cO, hD, hS, hU⟩ := h
  have hK : ∀ o, o ∈ Y → 1 ≤ oK n m C f0 o := fun o ho => by have := (V.obj o (.inl ho)).2.2.2; omega
  have hY : ∀ o, o ∈ LT1 ++ LT2 ∨ o ∈ LO1 ++ LO2 → o ∈ Y := fun o ho => I.phi o ((L.all o).2 ho)
  have c2 := L.t.split cT
  have d2 := L.o.split cO
  have e1 : LT2 = [] := c2.nil_of (fun o ho => hK o (hY o (.inl (List.mem_append_right _ ho)))) h1
  have e2 : LO2 = [] := d2.nil_of (fun o ho => hK o (hY o (.inr (List.mem_append_right _ ho)))) h2
  subst e1
  subst e2
  rw [List.append_nil, List.append_nil] at L
  refine ⟨L, fun o ho => ?_⟩
  rcases ho with ho | ho
  · rw [(I.fmD V ho).2]; exact hD o ho
  · unfold fm; rw [if_neg ho]; exact hS o ((L.all o).1 ho)
/-- Below the tops, and never past them. -/
theorem SI.bd (V : Wd n m C f0 Y D T0 O0) {a b : Int} {φ : Int → Int} {sn : Int → Nat} {s : Sc} {LT1 LT2 LO1 LO2 : List Int} (h : SI n m C thr f0 Y D T0 O0 a b s φ sn LT1 LT2 LO1 LO2) : T0.f ≤ a ∧ a ≤ s.tt.t ∧ O0.t ≤ b ∧ b ≤ s.od.t := by
  obtain ⟨I, A, L, cT, cO, hD, hS, hU⟩ := h
  have hK : ∀ o, o ∈ Y → 1 ≤ oK n m C f0 o := fun o ho => by have := (V.obj o (.inl ho)).2.2.2; omega
  have hY : ∀ o, o ∈ LT1 ++ LT2 ∨ o ∈ LO1 ++ LO2 → o ∈ Y := fun o ho => I.phi o ((L.all o).2 ho)
  have c2 := (cT.ge (fun o ho => hK o (hY o (.inl (List.mem_append_left _ ho))))).1
  have c3 := ((L.t.split cT).ge (fun o ho => hK o (hY o (.inl (List.mem_append_right _ ho))))).1
  have d2 := (cO.ge (fun o ho => hK o (hY o (.inr (List.mem_append_left _ ho))))).1
  have d3 := ((L.o.split cO).ge (fun o ho => hK o (hY o (.inr (List.mem_append_right _ ho))))).1
  exact ⟨c2, c3, d2, d3⟩
/-- When all is scanned. -/
theorem ScR.end_ (V : Wd n m C f0 Y D T0 O0) (G : Yg n m C f0 Y D O0 yg) (hcl : ∀ o, o ∈ Y ∨ o ∈ D → ∀ i : Nat, (i : Int) < oR n m C f0 o → f0 (o + 2 + i).toNat = 0 ∨ f0 (o + 2 + i).toNat ∈ Y ∨ f0 (o + 2 + i).toNat ∈ D) {a b : Int} {s s' : Sc} (h : ScR n m C yg thr a b s s') :
    ∀ (φ : Int → Int) (sn : Int → Nat) (LT1 LT2 LO1 LO2 : List Int), Inv n m C f0 Y D T0 O0 φ sn s → Acc (oK n m C f0) Y T0 O0 φ s → Lay15 (oK n m C f0) (fun q => (oH n m C f0 q).age < thr) φ T0 O0 s (LT1 ++ LT2) (LO1 ++ LO2) → Chain (oK n m C f0) φ T0.f LT1 a → Chain (oK n m C f0) φ O0.t LO1 b →
      (∀ o, o ∈ D → sn o = (oR n m C f0 o).toNat) → (∀ o, o ∈ LT1 ∨ o ∈ LO1 → sn (φ o) = (oR n m C f0 o).toNat) → (∀ o, o ∈ LT2 ∨ o ∈ LO2 → sn (φ o) = 0) →
      ∃ φ' sn' LT LO, Inv n m C f0 Y D T0 O0 φ' sn' s' ∧ Acc (oK n m C f0) Y T0 O0 φ' s' ∧ Lay15 (oK n m C f0) (fun q => (oH n m C f0 q).age < thr) φ' T0 O0 s' LT LO ∧ (∀ x, φ x ≠ 0 → φ' x = φ x) ∧ (∀ o, o ∈ D ∨ φ' o ≠ 0 → sn' (fm φ' o) = (oR n m C f0 o).toNat) ∧
      ∀ P : Int → Prop, (∀ o, P o → o ∈ Y → ∀ i : Nat, (i : Int) < oR n m C f0 o → P (f0 (o + 2 + i).toNat)) → (∀ a, φ a ≠ 0 → P a) → ∀ a, φ' a ≠ 0 → P a := by
  induction h with
  | @done a b s h1 h2 =>
    intro φ sn LT1 LT2 LO1 LO2 I A L cT cO hD hS hU
    obtain ⟨q1, q2⟩ := SI.done V ⟨I, A, L, cT, cO, hD, hS, hU⟩ h1 h2
    exact ⟨φ, sn, LT1, LO1, I, A, q1, fun _ _ => rfl, q2, fun P _ h => h⟩
  | @to_ a b s s' h1 _ ih =>
    intro φ sn LT1 LT2 LO1 LO2 I A L cT cO hD hS hU
    obtain ⟨o, φ1, sn1, L1, L2, M1, M2, _, _, _, hnx, h, hext, hP⟩ := SI.to_ (thr := thr) V G hcl ⟨I, A, L, cT, cO, hD, hS, hU⟩ h1
    rw [hnx] at ih
    obtain ⟨φ2, sn2, LT, LO, k1, k2, k3, k4, k5, k6⟩ := ih φ1 _ _ _ _ _ h.I h.A h.L h.cT h.cO h.hD h.hS h.hU
    exact ⟨φ2, sn2, LT, LO, k1, k2, k3, fun x hx => by rw [k4 x (by rw [hext x hx]; exact hx), hext x hx], k5, fun P hc h => k6 P hc (hP P hc h)⟩
  | @old_ a b s s' h0_ h1 _ ih =>
    intro φ sn LT1 LT2 LO1 LO2 I A L cT cO hD hS hU
    obtain ⟨o, φ1, sn1, L1, L2, M1, M2, _, _, _, hnx, h, hext, hP⟩ := SI.old_ (thr := thr) V G hcl ⟨I, A, L, cT, cO, hD, hS, hU⟩ h1
    rw [hnx] at ih
    obtain ⟨φ2, sn2, LT, LO, k1, k2, k3, k4, k5, k6⟩ := ih φ1 _ _ _ _ _ h.I h.A h.L h.cT h.cO h.hD h.hS h.hU
    exact ⟨φ2, sn2, LT, LO, k1, k2, k3, fun x hx => by rw [k4 x (by rw [hext x hx]; exact hx), hext x hx], k5, fun P hc h => k6 P hc (hP P hc h)⟩
end

end Go.Proofs.Ytabfbgkablbeeaa
