/- Layer 15, plain: behind a run the same is reached, as the same text. -/
import Derived.Test.YtabfbgkablbeeaaG20
import Derived.Test.YtabfbgkablbeeaaG02
set_option linter.all false

namespace Go.Proofs.Ytabfbgkablbeeaa
open Go.RowKit

def mvL (mv : Sc → Int → Sc × Int) : List Int → Sc → Sc × List Int
  | [], s => (s, [])
  | x :: l, s => ((mvL mv l (mv s x).1).1, (mv s x).2 :: (mvL mv l (mv s x).1).2)
def scL (sc : Sc → Int → Sc × Int) : List Int → Sc → Sc
  | [], s => s
  | x :: l, s => scL sc l (sc s x).1
section
variable {n m : Nat} {C : Nat → Cl} {f0 : Nat → Int} {Y D : List Int} {T0 O0 : Sp} {yg : Int → Bool} {thr : Int}
theorem Inv.init (V : Wd n m C f0 Y D T0 O0) (hT : T0.t = T0.f ∧ T0.f ≤ T0.e) (hO : O0.t ≤ O0.e) : Inv n m C f0 Y D T0 O0 (fun _ => 0) (fun _ => 0) ⟨f0, T0, O0⟩ := by
  refine ⟨fun x h => absurd rfl h, fun a _ => ⟨by rw [if_pos rfl], fun _ _ _ => rfl⟩, fun a _ i _ _ => ?_, fun a h => absurd rfl h, fun a h => absurd rfl h, fun a _ h => absurd rfl h, ⟨rfl, rfl, by show T0.f ≤ T0.t; omega, by show T0.t ≤ T0.e; omega⟩, ⟨rfl, rfl, Int.le_refl _, hO⟩, fun a _ i hi => by omega, fun _ _ => rfl⟩
  show f0 (a + i).toNat = _
  unfold wdQ
  rw [if_neg (by omega)]
theorem Acc.init (hT : T0.t = T0.f) : Acc (oK n m C f0) Y T0 O0 (fun _ => 0) ⟨f0, T0, O0⟩ := by
  have : ∀ l : List Int, wsumF (oK n m C f0) (fun _ => 0) l = 0 := fun l => by
    induction l with
    | nil => rfl
    | cons c l ih =>
      unfold wsumF at ih ⊢
      rw [List.map_cons, List.sum_cons, ih, if_pos rfl]
      omega
  unfold Acc
  rw [this]
  dsimp only
  omega
theorem Lay15.init {K : Int → Int} {Q : Int → Prop} (hT : T0.t = T0.f) : Lay15 K Q (fun _ => 0) T0 O0 ⟨f0, T0, O0⟩ [] [] :=
  ⟨by show Chain K _ T0.f [] T0.t; rw [hT]; exact .nil _, .nil _, fun a => ⟨fun h => absurd rfl h, fun h => by rcases h with h | h <;> cases h⟩, fun a h => by cases h⟩
theorem fm_ext {φ φ' : Int → Int} {sn sn' : Int → Nat} {s s' : Sc} (J : Inv n m C f0 Y D T0 O0 φ' sn' s') (hext : ∀ a, φ a ≠ 0 → φ' a = φ a) {x : Int} (hx : x ∈ Y → φ x ≠ 0) : fm φ' x = fm φ x := by
  by_cases h : φ x = 0
  · have hY : x ∉ Y := fun hm => hx hm h
    have h2 : φ' x = 0 := by
      by_cases h2 : φ' x = 0
      · exact h2
      · exact absurd (J.phi x h2) hY
    unfold fm
    rw [if_pos h, if_pos h2]
  · unfold fm; rw [hext x h]
theorem mvL_inv (V : Wd n m C f0 Y D T0 O0) (G : Yg n m C f0 Y D O0 yg) : ∀ (l : List Int) (φ : Int → Int) (sn : Int → Nat) (s : Sc), Inv n m C f0 Y D T0 O0 φ sn s → Acc (oK n m C f0) Y T0 O0 φ s → (∀ x, x ∈ l → x = 0 ∨ x ∈ Y ∨ x ∈ D) → ∀ LT LO, Lay15 (oK n m C f0) (fun q => (oH n m C f0 q).age < thr) φ T0 O0 s LT LO →
    ∃ φ' LT' LO', Inv n m C f0 Y D T0 O0 φ' sn (mvL (mvd n m C yg thr) l s).1 ∧ Acc (oK n m C f0) Y T0 O0 φ' (mvL (mvd n m C yg thr) l s).1 ∧ Lay15 (oK n m C f0) (fun q => (oH n m C f0 q).age < thr) φ' T0 O0 (mvL (mvd n m C yg thr) l s).1 LT' LO' ∧ (∀ a, φ a ≠ 0 → φ' a = φ a) ∧ (mvL (mvd n m C yg thr) l s).2 = l.map (fm φ') ∧ (∀ x, x ∈ l → x ∈ Y → φ' x ≠ 0) ∧ ∀ P : Int → Prop, (∀ x, x ∈ l → P x) → (∀ a, φ a ≠ 0 → P a) → ∀ a, φ' a ≠ 0 → P a
  | [], φ, sn, s, I, A, _, LT, LO, L => ⟨φ, LT, LO, I, A, L, fun _ _ => rfl, rfl, (fun x h => by cases h), fun P _ h => h⟩
  | x :: l, φ, sn, s, I, A, hx, LT, LO, L => by
    obtain ⟨φ1, I1, A1, hv, hm, hext, hmv⟩ := mvd_inv (thr := thr) V G I A (hx x (List.mem_cons_self ..))
    obtain ⟨NA, NB, L1⟩ := L.step hmv
    obtain ⟨φ2, LT2, LO2, I2, A2, L2, he2, hr, hm2, hP2⟩ := mvL_inv V G l φ1 sn _ I1 A1 (fun y hy => hx y (List.mem_cons_of_mem _ hy)) _ _ L1
    refine ⟨φ2, LT2, LO2, I2, A2, L2, fun a ha => by rw [he2 a (by rw [hext a ha]; exact ha), hext a ha], ?_, fun y hy hyY => ?_, fun P hp h => hP2 P (fun y hy => hp y (List.mem_cons_of_mem _ hy)) (fun a ha => (hmv.only ha).elim (h a) (fun e => by rw [e]; exact hp x (List.mem_cons_self ..)))⟩
    · show (mvd n m C yg thr s x).2 :: _ = _
      rw [hr, hv, List.map_cons, fm_ext (s := s) (sn := sn) I2 he2 hm]
    · rcases List.mem_cons.1 hy with rfl | hy
      · rw [he2 y (hm hyY)]; exact hm hyY
      · exact hm2 y hy hyY
theorem scL_inv (V : Wd n m C f0 Y D T0 O0) (G : Yg n m C f0 Y D O0 yg) (hcl : ∀ o, o ∈ Y ∨ o ∈ D → ∀ i : Nat, (i : Int) < oR n m C f0 o → f0 (o + 2 + i).toNat = 0 ∨ f0 (o + 2 + i).toNat ∈ Y ∨ f0 (o + 2 + i).toNat ∈ D) :
    ∀ (l : List Int) (φ : Int → Int) (sn : Int → Nat) (s : Sc), Inv n m C f0 Y D T0 O0 φ sn s → Acc (oK n m C f0) Y T0 O0 φ s → l.Nodup → (∀ o, o ∈ l → o ∈ D ∧ sn o = 0) → ∀ LT LO, Lay15 (oK n m C f0) (fun q => (oH n m C f0 q).age < thr) φ T0 O0 s LT LO →
    ∃ φ' sn' LT' LO', Inv n m C f0 Y D T0 O0 φ' sn' (scL (scn n m C yg thr) l s) ∧ Acc (oK n m C f0) Y T0 O0 φ' (scL (scn n m C yg thr) l s) ∧ Lay15 (oK n m C f0) (fun q => (oH n m C f0 q).age < thr) φ' T0 O0 (scL (scn n m C yg thr) l s) LT' LO' ∧ (∀ a, φ a ≠ 0 → φ' a = φ a) ∧ (∀ o, o ∈ l → sn' o = (oR n m C f0 o).toNat) ∧ (∀ p, p ∉ l → sn' p = sn p) ∧ ∀ P : Int → Prop, (∀ o, o ∈ l → ∀ i : Nat, (i : Int) < oR n m C f0 o → P (f0 (o + 2 + i).toNat)) → (∀ a, φ a ≠ 0 → P a) → ∀ a, φ' a ≠ 0 → P a
  | [], φ, sn, s, I, A, _, _, LT, LO, L => ⟨φ, sn, LT, LO, I, A, L, fun _ _ => rfl, (fun o h => by cases h), (fun _ _ => rfl), fun P _ h => h⟩
  | o :: l, φ, sn, s, I, A, hn, hD, LT, LO, L => by
    obtain ⟨n1, n2⟩ := List.nodup_cons.1 hn
    obtain ⟨d1, d2⟩ := hD o (List.mem_cons_self ..)
    have hfm := (I.fmD V d1).2
    obtain ⟨φ1, J, B, hext, hLx, _, hPx⟩ := scn_inv (thr := thr) V G hcl I A (.inl d1) (by rw [hfm]; exact d2)
    rw [hfm] at J B hLx
    obtain ⟨NA, NB, L1⟩ := hLx _ _ L
    obtain ⟨φ2, sn2, LT2, LO2, I2, A2, L2, he2, hs2, hp2, hP2⟩ := scL_inv V G hcl l φ1 _ _ J B n2 (fun q hq => ⟨(hD q (List.mem_cons_of_mem _ hq)).1, by
      unfold snS
      rw [if_neg (fun e => n1 (by rw [← e]; exact hq))]
      exact (hD q (List.mem_cons_of_mem _ hq)).2⟩) _ _ L1
    refine ⟨φ2, sn2, LT2, LO2, I2, A2, L2, fun a ha => by rw [he2 a (by rw [hext a ha]; exact ha), hext a ha], fun q hq => ?_, fun p hp => ?_, fun P hp h => hP2 P (fun q hq => hp q (List.mem_cons_of_mem _ hq)) (hPx P (hp o (List.mem_cons_self ..)) h)⟩
    · rcases List.mem_cons.1 hq with rfl | hq
      · rw [hp2 q n1]
        exact if_pos rfl
      · exact hs2 q hq
    · rw [hp2 p (fun h => hp (List.mem_cons_of_mem _ h))]
      exact if_neg (fun e => hp (by rw [e]; exact List.mem_cons_self ..))
/-- A run: from the fresh memory f0 to the state s', the roots' new addresses. -/
structure RunScv (n m : Nat) (C : Nat → Cl) (f0 : Nat → Int) (yg : Int → Bool) (thr : Int) (T0 O0 : Sp) (D roots : List Int) (s' : Sc) (out : List Int) : Prop where
  out : out = (mvL (mvd n m C yg thr) roots ⟨f0, T0, O0⟩).2
  scan : ScR n m C yg thr T0.f O0.t (scL (scn n m C yg thr) D (mvL (mvd n m C yg thr) roots ⟨f0, T0, O0⟩).1) s'
/-- What holds behind a run. -/
theorem run_scv (V : Wd n m C f0 Y D T0 O0) (G : Yg n m C f0 Y D O0 yg) (hcl : ∀ o, o ∈ Y ∨ o ∈ D → ∀ i : Nat, (i : Int) < oR n m C f0 o → f0 (o + 2 + i).toNat = 0 ∨ f0 (o + 2 + i).toNat ∈ Y ∨ f0 (o + 2 + i).toNat ∈ D)
    (hT : T0.t = T0.f ∧ T0.f ≤ T0.e) (hO : O0.t ≤ O0.e) (hnD : D.Nodup) {roots : List Int} (hr : ∀ x, x ∈ roots → x = 0 ∨ x ∈ Y ∨ x ∈ D) {s' : Sc} {out : List Int} (h : RunScv n m C f0 yg thr T0 O0 D roots s' out) :
    ∃ φ sn LT LO, Inv n m C f0 Y D T0 O0 φ sn s' ∧ Acc (oK n m C f0) Y T0 O0 φ s' ∧ Lay15 (oK n m C f0) (fun q => (oH n m C f0 q).age < thr) φ T0 O0 s' LT LO ∧ out = roots.map (fm φ) ∧ (∀ x, x ∈ roots → x ∈ Y → φ x ≠ 0) ∧ (∀ o, o ∈ D ∨ φ o ≠ 0 → sn (fm φ o) = (oR n m C f0 o).toNat) ∧
      ∀ P : Int → Prop, (∀ x, x ∈ roots → P x) → (∀ o, o ∈ D → ∀ i : Nat, (i : Int) < oR n m C f0 o → P (f0 (o + 2 + i).toNat)) → (∀ o, P o → o ∈ Y → ∀ i : Nat, (i : Int) < oR n m C f0 o → P (f0 (o + 2 + i).toNat)) → ∀ a, φ a ≠ 0 → P a := by
  obtain ⟨φ1, LT1, LO1, I1, A1, L1, _, ho, hm, hP1⟩ := mvL_inv (thr := thr) V G roots _ _ _ (Inv.init V hT hO) (Acc.init hT.1) hr _ _ (Lay15.init hT.1)
  obtain ⟨φ2, sn2, LT2, LO2, I2, A2, L2, he2, hs2, hp2, hP2⟩ := scL_inv (thr := thr) V G hcl D φ1 _ _ I1 A1 hnD (fun o ho => ⟨ho, rfl⟩) _ _ L1
  have hz : ∀ o, φ2 o ≠ 0 → sn2 (φ2 o) = 0 := fun o hφ => by
    refine hp2 _ (fun hd => ?_)
    have h1 := I2.reg o hφ
    have h2 := V.free _ (.inr hd)
    have h3 := (V.obj _ (.inr hd)).2.2.2
    have h4 := (V.obj o (.inl (I2.phi o hφ))).2.2.2
    have := I2.to_
    have := I2.old_
    omega
  obtain ⟨φ3, sn3, LT3, LO3, I3, A3, L3, he3, hs3, hP3⟩ := h.scan.end_ V G hcl φ2 sn2 [] LT2 [] LO2 I2 A2 L2 (.nil _) (.nil _) hs2 (fun o ho => by rcases ho with ho | ho <;> cases ho) (fun o ho => hz o ((L2.all o).2 ho))
  have hext : ∀ a, φ1 a ≠ 0 → φ3 a = φ1 a := fun a ha => by rw [he3 a (by rw [he2 a ha]; exact ha), he2 a ha]
  refine ⟨φ3, sn3, LT3, LO3, I3, A3, L3, ?_, fun x hx hxY => by rw [hext x (hm x hx hxY)]; exact hm x hx hxY, hs3, fun P p1 p2 p3 => hP3 P p3 (hP2 P p2 (hP1 P p1 (fun a h => absurd rfl h)))⟩
  rw [h.out, ho]
  refine List.map_congr_left (fun x hx => (fm_ext (s := ⟨f0, T0, O0⟩) (sn := fun _ => 0) I3 hext (fun hxY => hm x hx hxY)).symm)
end

end Go.Proofs.Ytabfbgkablbeeaa

namespace Go.Proofs.Ytabfbgkablbeeaa
open Go.RowKit

def addN (out : List Int) (x : Int) : List Int := if x = 0 ∨ x ∈ out then out else out ++ [x]
def addL (out xs : List Int) : List Int := xs.foldl addN out
/-- All that is reached, in the order in which it is come to. -/
def reachF (refs : Int → List Int) : Nat → Nat → List Int → List Int
  | 0, _, out => out
  | k + 1, i, out => if i < out.length then reachF refs k (i + 1) (addL out (refs (out.getD i 0))) else out
def plc : List Int → Int → Int
  | [], _ => -1
  | y :: l, x => if y = x then 0 else if plc l x < 0 then -1 else plc l x + 1
def canonF (refs data hd : Int → List Int) (from_ : List Int) (k : Nat) : List Int :=
  from_.map (plc (reachF refs k 0 (addL [] from_))) ++ (reachF refs k 0 (addL [] from_)).flatMap fun o => hd o ++ ((refs o).map (plc (reachF refs k 0 (addL [] from_))) ++ data o)
section
variable {S : Int → Prop} {g : Int → Int} (g0 : g 0 = 0) (hinj : ∀ x y, (x = 0 ∨ S x) → (y = 0 ∨ S y) → g x = g y → x = y)
include g0 hinj
theorem addN_map {out : List Int} (ho : ∀ x, x ∈ out → S x) {x : Int} (hx : x = 0 ∨ S x) : addN (out.map g) (g x) = (addN out x).map g ∧ ∀ y, y ∈ addN out x → S y := by
  unfold addN
  by_cases h : x = 0 ∨ x ∈ out
  · rw [if_pos h, if_pos (h.imp (fun e => by rw [e, g0]) (fun hm => List.mem_map.2 ⟨x, hm, rfl⟩))]
    exact ⟨rfl, ho⟩
  · rw [if_neg h, if_neg, List.map_append]
    · refine ⟨rfl, fun y hy => ?_⟩
      rcases List.mem_append.1 hy with hy | hy
      · exact ho y hy
      · rw [List.mem_singleton.1 hy]; exact hx.resolve_left (fun e => h (.inl e))
    · intro h2
      rcases h2 with h2 | h2
      · exact h (.inl (hinj x 0 hx (.inl rfl) (by rw [h2, g0])))
      · obtain ⟨y, hy, e⟩ := List.mem_map.1 h2
        have := hinj y x (.inr (ho y hy)) hx e
        exact h (.inr (by rw [← this]; exact hy))
theorem addL_map : ∀ (xs out : List Int), (∀ x, x ∈ out → S x) → (∀ x, x ∈ xs → x = 0 ∨ S x) → addL (out.map g) (xs.map g) = (addL out xs).map g ∧ ∀ y, y ∈ addL out xs → S y
  | [], out, ho, _ => ⟨rfl, ho⟩
  | x :: xs, out, ho, hx => by
    obtain ⟨h1, h2⟩ := addN_map g0 hinj ho (hx x (List.mem_cons_self ..))
    have := addL_map xs (addN out x) h2 (fun y hy => hx y (List.mem_cons_of_mem _ hy))
    unfold addL at this ⊢
    rw [List.map_cons, List.foldl_cons, List.foldl_cons, h1]
    exact this
theorem reachF_map {refs refs' : Int → List Int} (hr : ∀ x, S x → refs' (g x) = (refs x).map g) (hc : ∀ x, S x → ∀ y, y ∈ refs x → y = 0 ∨ S y) : ∀ (k i : Nat) (out : List Int), (∀ x, x ∈ out → S x) → reachF refs' k i (out.map g) = (reachF refs k i out).map g ∧ ∀ y, y ∈ reachF refs k i out → S y
  | 0, _, out, ho => ⟨rfl, ho⟩
  | k + 1, i, out, ho => by
    unfold reachF
    by_cases h : i < out.length
    · rw [if_pos h, if_pos (by rw [List.length_map]; exact h)]
      have hm : out.getD i 0 ∈ out := by
        rw [List.getD_eq_getElem?_getD, List.getElem?_eq_getElem h]; exact List.getElem_mem _
      have e : (out.map g).getD i 0 = g (out.getD i 0) := by
        rw [List.getD_eq_getElem?_getD, List.getD_eq_getElem?_getD, List.getElem?_map, List.getElem?_eq_getElem h]; rfl
      rw [e, hr _ (ho _ hm)]
      obtain ⟨h1, h2⟩ := addL_map g0 hinj (refs (out.getD i 0)) out ho (hc _ (ho _ hm))
      rw [h1]
      exact reachF_map hr hc k (i + 1) _ h2
    · rw [if_neg h, if_neg (by rw [List.length_map]; exact h)]
      exact ⟨rfl, ho⟩
theorem plc_map : ∀ (l : List Int), (∀ x, x ∈ l → S x) → ∀ x, (x = 0 ∨ S x) → plc (l.map g) (g x) = plc l x
  | [], _, _, _ => rfl
  | y :: l, hl, x, hx => by
    have ih := plc_map l (fun z hz => hl z (List.mem_cons_of_mem _ hz)) x hx
    rw [List.map_cons]
    unfold plc
    rw [ih]
    by_cases e : y = x
    · rw [if_pos e, if_pos (by rw [e])]
    · rw [if_neg e, if_neg (fun e2 => e (hinj y x (.inr (hl y (List.mem_cons_self ..))) hx e2))]
/-- The text is the same, wherever all lies. -/
theorem canonF_map {refs refs' data data' hd hd' : Int → List Int} (hr : ∀ x, S x → refs' (g x) = (refs x).map g) (hc : ∀ x, S x → ∀ y, y ∈ refs x → y = 0 ∨ S y) (hda : ∀ x, S x → data' (g x) = data x) (hh : ∀ x, S x → hd' (g x) = hd x)
    (from_ : List Int) (hf : ∀ x, x ∈ from_ → x = 0 ∨ S x) (k : Nat) : canonF refs' data' hd' (from_.map g) k = canonF refs data hd from_ k := by
  obtain ⟨a1, a2⟩ := addL_map g0 hinj from_ [] (fun x h => by cases h) hf
  rw [List.map_nil] at a1
  obtain ⟨b1, b2⟩ := reachF_map g0 hinj hr hc k 0 _ a2
  unfold canonF
  rw [a1, b1, List.map_map]
  congr 1
  · exact List.map_congr_left (fun x hx => plc_map g0 hinj _ b2 x (hf x hx))
  · rw [List.flatMap_map]
    have : ∀ (l : List Int), (∀ x, x ∈ l → S x) → (l.flatMap fun a => hd' (g a) ++ ((refs' (g a)).map (plc ((reachF refs k 0 (addL [] from_)).map g)) ++ data' (g a))) = l.flatMap fun o => hd o ++ ((refs o).map (plc (reachF refs k 0 (addL [] from_))) ++ data o) := by
      intro l
      induction l with
      | nil => intro _; rfl
      | cons x l ih =>
        intro hl
        have hx := hl x (List.mem_cons_self ..)
        rw [List.flatMap_cons, List.flatMap_cons, ih (fun y hy => hl y (List.mem_cons_of_mem _ hy)), hh x hx, hda x hx, hr x hx, List.map_map]
        congr 3
        exact List.map_congr_left (fun y hy => plc_map g0 hinj _ b2 y (hc x hx y hy))
    exact this _ b2
end

end Go.Proofs.Ytabfbgkablbeeaa

namespace Go.Proofs.Ytabfbgkablbeeaa
open Go.RowKit

def refsO (n m : Nat) (C : Nat → Cl) (F : Nat → Int) (a : Int) : List Int := rfs F a (atT n F m C a).1.refs.toNat
def dataO (n m : Nat) (C : Nat → Cl) (F : Nat → Int) (a : Int) : List Int := (List.range (atT n F m C a).1.data.toNat).map fun i : Nat => F (a + 2 + (atT n F m C a).1.refs + (i : Int)).toNat
def flagI (h : Hd) : Int := (if h.fin then 1 else 0) + (if h.done then 2 else 0)
def hdO (n m : Nat) (C : Nat → Cl) (F : Nat → Int) (a : Int) : List Int := [-2, (atT n F m C a).1.hd.cls, F (a + 1).toNat, flagI (atT n F m C a).1.hd]
section
variable {n m : Nat} {C : Nat → Cl} {f0 : Nat → Int} {Y D : List Int} {T0 O0 : Sp} {φ : Int → Int} {sn : Int → Nat} {s : Sc}
theorem Inv.fm1 (V : Wd n m C f0 Y D T0 O0) (I : Inv n m C f0 Y D T0 O0 φ sn s) {o : Int} (ho : o ∈ D ∨ φ o ≠ 0) : 1 ≤ fm φ o := by
  rcases ho with h | h
  · rw [(I.fmD V h).2]; exact (V.obj o (.inr h)).2.2.2.2.2.1
  · have h2 := I.reg o h
    have hT := V.to0
    have hO := V.old0
    unfold fm; rw [if_neg h]; omega
theorem Inv.phi0 (V : Wd n m C f0 Y D T0 O0) (I : Inv n m C f0 Y D T0 O0 φ sn s) : φ 0 = 0 := by
  by_cases h : φ 0 = 0
  · exact h
  · have := (V.obj 0 (.inl (I.phi 0 h))).2.2.2.2.2.1
    omega
/-- Each word of what was moved, or is old, when all is scanned. -/
theorem Inv.word (V : Wd n m C f0 Y D T0 O0) (I : Inv n m C f0 Y D T0 O0 φ sn s) (hs : ∀ o, o ∈ D ∨ φ o ≠ 0 → sn (fm φ o) = (oR n m C f0 o).toNat) {o : Int} (ho : o ∈ D ∨ φ o ≠ 0) {i : Int} (i1 : 1 ≤ i) (i2 : i < oK n m C f0 o) :
    s.f (fm φ o + i).toNat = if 2 ≤ i ∧ i < 2 + oR n m C f0 o then fm φ (f0 (o + i).toNat) else f0 (o + i).toNat := by
  have hYD : o ∈ Y ∨ o ∈ D := ho.elim (fun h => .inr h) (fun h => .inl (I.phi o h))
  have hk := (V.obj o hYD).2.2.2
  have hso := hs o ho
  have hw : s.f (fm φ o + i).toNat = wdQ f0 φ (oR n m C f0 o).toNat o i := by
    rcases ho with h | h
    · obtain ⟨p0, p1⟩ := I.fmD V h
      have := I.olds o h i (by omega) i2
      rw [p1] at hso ⊢
      rw [hso] at this
      exact this
    · have hp : fm φ o = φ o := by unfold fm; rw [if_neg h]
      have := (I.news o h).2 i i1 i2
      rw [hp] at hso ⊢
      rw [hso] at this
      exact this
  rw [hw]
  unfold wdQ
  by_cases h : 2 ≤ i ∧ i < 2 + oR n m C f0 o
  · rw [if_pos h, if_pos (by omega)]
  · rw [if_neg h, if_neg (by omega)]
theorem Inv.canon (V : Wd n m C f0 Y D T0 O0) (I : Inv n m C f0 Y D T0 O0 φ sn s) (hs : ∀ o, o ∈ D ∨ φ o ≠ 0 → sn (fm φ o) = (oR n m C f0 o).toNat)
    (hcl : ∀ o, o ∈ Y ∨ o ∈ D → ∀ i : Nat, (i : Int) < oR n m C f0 o → f0 (o + 2 + i).toNat = 0 ∨ f0 (o + 2 + i).toNat ∈ Y ∨ f0 (o + 2 + i).toNat ∈ D) (from_ : List Int) (hf : ∀ x, x ∈ from_ → x = 0 ∨ (x ∈ D ∨ φ x ≠ 0)) (k : Nat) :
    canonF (refsO n m C s.f) (dataO n m C s.f) (hdO n m C s.f) (from_.map (fm φ)) k = canonF (refsO n m C f0) (dataO n m C f0) (hdO n m C f0) from_ k := by
  have hYD : ∀ o, o ∈ D ∨ φ o ≠ 0 → o ∈ Y ∨ o ∈ D := fun o ho => ho.elim (fun h => .inr h) (fun h => .inl (I.phi o h))
  have hfm0 : fm φ 0 = 0 := by unfold fm; rw [if_pos (I.phi0 V)]
  have hdat : ∀ o, o ∈ D ∨ φ o ≠ 0 → (atT n f0 m C o).1.data = oK n m C f0 o - 2 - oR n m C f0 o := fun o ho => by
    obtain ⟨e0, hc, _⟩ := V.obj o (hYD o ho)
    have h8 := (at_ok V.ok (show (atT n f0 m C o).2 = 0 by rw [e0])).2.2.2.2.2.2.2 (by
      unfold Th.is
      have : (atT n f0 m C o).1.hd.cls ≠ 0 := hc
      simpa using this)
    unfold oK oR
    omega
  refine canonF_map (S := fun x => x ∈ D ∨ φ x ≠ 0) hfm0 (fun x y hx hy e => ?_) (fun x hx => ?_) (fun x hx y hy => ?_) (fun x hx => ?_) (fun x hx => ?_) from_ hf k
  · rcases hx with rfl | hx
    · rcases hy with rfl | hy
      · rfl
      · have := I.fm1 V hy; omega
    · rcases hy with rfl | hy
      · have := I.fm1 V hx; omega
      · by_cases h : x = y
        · exact h
        · have h1 := I.apart V hx hy h
          have h2 := (V.obj x (hYD x hx)).2.2.2
          have h3 := (V.obj y (hYD y hy)).2.2.2
          omega
  · obtain ⟨h, hat, _⟩ := I.at_place V hx
    have hk := (V.obj x (hYD x hx)).2.2.2
    unfold refsO
    rw [hat]
    dsimp only
    unfold rfs
    rw [List.map_map]
    refine List.map_congr_left (fun i hi => ?_)
    have hi2 := List.mem_range.1 hi
    have hw := I.word V hs hx (i := 2 + (i : Int)) (by omega) (by omega)
    rw [if_pos (by omega)] at hw
    show s.f (fm φ x + 2 + (i : Int)).toNat = fm φ (f0 (x + 2 + (i : Int)).toNat)
    rw [show fm φ x + 2 + (i : Int) = fm φ x + (2 + (i : Int)) by omega, hw, show x + (2 + (i : Int)) = x + 2 + (i : Int) by omega]
  · unfold refsO rfs at hy
    obtain ⟨i, hi, rfl⟩ := List.mem_map.1 hy
    have hi2 := List.mem_range.1 hi
    have hk := (V.obj x (hYD x hx)).2.2.2
    have hR : (atT n f0 m C x).1.refs = oR n m C f0 x := rfl
    rw [hR] at hi2
    rcases hcl x (hYD x hx) i (by omega) with h | h | h
    · exact .inl h
    · exact .inr (.inr (I.scd x hx i (by rw [hs x hx]; omega) _ rfl h))
    · exact .inr (.inl h)
  · obtain ⟨h, hat, _⟩ := I.at_place V hx
    have hk := (V.obj x (hYD x hx)).2.2.2
    have hd := hdat x hx
    unfold dataO
    rw [hat]
    dsimp only
    refine List.map_congr_left (fun i hi => ?_)
    have hi2 := List.mem_range.1 hi
    have hR : (atT n f0 m C x).1.refs = oR n m C f0 x := rfl
    have hw := I.word V hs hx (i := 2 + oR n m C f0 x + (i : Int)) (by omega) (by omega)
    rw [if_neg (by omega)] at hw
    rw [hR, show fm φ x + 2 + oR n m C f0 x + (i : Int) = fm φ x + (2 + oR n m C f0 x + (i : Int)) by omega, hw]
    congr 2
    omega
  · obtain ⟨h, hat, _, hcls, hD, hY⟩ := I.at_place V hx
    have hk := (V.obj x (hYD x hx)).2.2.2
    have hw := I.word V hs hx (i := 1) (by omega) (by omega)
    rw [if_neg (by omega)] at hw
    have hH : (atT n f0 m C x).1.hd = oH n m C f0 x := rfl
    have hfl : flagI h = flagI (oH n m C f0 x) := by
      rcases hx with hx | hx
      · rw [hD hx]
      · rcases hY hx with e | e <;> (rw [e]; rfl)
    unfold hdO
    rw [hat, hw, hH]
    dsimp only
    rw [hcls, hfl]
end

end Go.Proofs.Ytabfbgkablbeeaa
