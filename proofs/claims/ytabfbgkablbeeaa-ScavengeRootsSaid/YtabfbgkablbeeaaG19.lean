/- Layer 15, plain: move and scan as functions; they keep what holds. -/
import Derived.Test.YtabfbgkablbeeaaG18
set_option linter.all false

namespace Go.Proofs.Ytabfbgkablbeeaa
open Go.RowKit

def wsumF (K φ : Int → Int) (l : List Int) : Int := (l.map fun a => if φ a = 0 then 0 else K a).sum
theorem wsumF_out {K φ : Int → Int} {a b : Int} : ∀ {l : List Int}, a ∉ l → wsumF K (setφ φ a b) l = wsumF K φ l
  | [], _ => rfl
  | c :: l, h => by
    have h1 : c ≠ a := fun e => h (by rw [e]; exact List.mem_cons_self ..)
    have h2 := wsumF_out (K := K) (φ := φ) (b := b) (l := l) (fun hm => h (List.mem_cons_of_mem _ hm))
    unfold wsumF at h2 ⊢
    rw [List.map_cons, List.map_cons, List.sum_cons, List.sum_cons, h2]
    unfold setφ
    rw [if_neg h1]
theorem wsumF_set {K φ : Int → Int} {a b : Int} (h0 : φ a = 0) (hb : b ≠ 0) : ∀ {l : List Int}, l.Nodup → a ∈ l → wsumF K (setφ φ a b) l = wsumF K φ l + K a
  | [], _, h => by cases h
  | c :: l, hn, h => by
    obtain ⟨n1, n2⟩ := List.nodup_cons.1 hn
    by_cases e : c = a
    · subst e
      have h2 := wsumF_out (K := K) (φ := φ) (b := b) n1
      unfold wsumF at h2 ⊢
      rw [List.map_cons, List.map_cons, List.sum_cons, List.sum_cons, h2, if_pos h0]
      unfold setφ
      rw [if_pos rfl, if_neg hb]
      omega
    · have hm : a ∈ l := (List.mem_cons.1 h).resolve_left (fun h2 => e h2.symm)
      have h2 := wsumF_set (K := K) h0 hb n2 hm
      unfold wsumF at h2 ⊢
      rw [List.map_cons, List.map_cons, List.sum_cons, List.sum_cons, h2]
      unfold setφ
      rw [if_neg e]
      omega
theorem wsumF_le {K φ : Int → Int} : ∀ {l : List Int}, (∀ a, a ∈ l → 0 ≤ K a) → wsumF K φ l ≤ (l.map K).sum
  | [], _ => Int.le_refl _
  | c :: l, h => by
    have h2 := wsumF_le (φ := φ) (l := l) (fun a ha => h a (List.mem_cons_of_mem _ ha))
    have h3 := h c (List.mem_cons_self ..)
    unfold wsumF at h2 ⊢
    rw [List.map_cons, List.map_cons, List.sum_cons, List.sum_cons]
    split <;> omega
/-- An object's address, or 0, is moved if it is a young one's. -/
def mvd (n m : Nat) (C : Nat → Cl) (yg : Int → Bool) (thr : Int) (s : Sc) (a : Int) : Sc × Int :=
  if a = 0 ∨ yg a = false then (s, a)
  else if (atT n s.f m C a).1.hd.fwd ≠ 0 then (s, (atT n s.f m C a).1.hd.fwd)
  else if (atT n s.f m C a).1.hd.age < thr ∧ (atT n s.f m C a).1.words ≤ s.tt.e - s.tt.t then
    (⟨mvF s.f a s.tt.t (atT n s.f m C a).1.words (olderH (unm (atT n s.f m C a).1.hd)) (fwdH (atT n s.f m C a).1.hd s.tt.t), { s.tt with t := s.tt.t + (atT n s.f m C a).1.words }, s.od⟩, s.tt.t)
  else
    (⟨mvF s.f a s.od.t (atT n s.f m C a).1.words (unm (atT n s.f m C a).1.hd) (fwdH (atT n s.f m C a).1.hd s.od.t), s.tt, { s.od with t := s.od.t + (atT n s.f m C a).1.words }⟩, s.od.t)
/-- The words that were moved fill To and Old's end. -/
def Acc (K : Int → Int) (Y : List Int) (T0 O0 : Sp) (φ : Int → Int) (s : Sc) : Prop := (s.tt.t - T0.f) + (s.od.t - O0.t) = wsumF K φ Y
/-- What a move does to the spaces. -/
def MvD (K : Int → Int) (Q : Int → Prop) (φ φ' : Int → Int) (x : Int) (s s' : Sc) : Prop :=
  (φ' = φ ∧ s'.tt = s.tt ∧ s'.od = s.od) ∨ (φ x = 0 ∧ φ' = setφ φ x s.tt.t ∧ s'.tt.t = s.tt.t + K x ∧ s'.od = s.od ∧ s.tt.t ≠ 0 ∧ Q x) ∨ (φ x = 0 ∧ φ' = setφ φ x s.od.t ∧ s'.od.t = s.od.t + K x ∧ s'.tt = s.tt ∧ s.od.t ≠ 0)
theorem MvD.only {K φ φ' : Int → Int} {Q : Int → Prop} {x : Int} {s s' : Sc} (h : MvD K Q φ φ' x s s') {a : Int} (ha : φ' a ≠ 0) : φ a ≠ 0 ∨ a = x := by
  by_cases e : a = x
  · exact .inr e
  · rcases h with ⟨rfl, _⟩ | ⟨_, rfl, _⟩ | ⟨_, rfl, _⟩
    · exact .inl ha
    · unfold setφ at ha; rw [if_neg e] at ha; exact .inl ha
    · unfold setφ at ha; rw [if_neg e] at ha; exact .inl ha
structure Yg (n m : Nat) (C : Nat → Cl) (f0 : Nat → Int) (Y D : List Int) (O0 : Sp) (yg : Int → Bool) : Prop where
  y : ∀ a, a ∈ Y → yg a = true
  d : ∀ a, a ∈ D → yg a = false
  nd : Y.Nodup
  room : (Y.map (oK n m C f0)).sum ≤ O0.e - O0.t
section
variable {n m : Nat} {C : Nat → Cl} {f0 : Nat → Int} {Y D : List Int} {T0 O0 : Sp} {φ : Int → Int} {sn : Int → Nat} {s : Sc} {yg : Int → Bool} {thr : Int}
theorem Inv.at_young (V : Wd n m C f0 Y D T0 O0) (I : Inv n m C f0 Y D T0 O0 φ sn s) {a : Int} (ha : a ∈ Y) : atT n s.f m C a = (⟨if φ a = 0 then oH n m C f0 a else fwdH (oH n m C f0 a) (φ a), oR n m C f0 a, (atT n f0 m C a).1.data, oK n m C f0 a⟩, 0) := by
  obtain ⟨e0, hc, hok, r0, hk2, a1, a2⟩ := V.obj a (.inl ha)
  obtain ⟨y1, y2⟩ := I.young a ha
  by_cases h0 : φ a = 0
  · rw [if_pos h0] at y1 ⊢
    rw [← e0]
    refine atT_same V.ok (by rw [e0]) (fun j j0 j1 => ?_)
    have hw : (atT n f0 m C a).1.words = oK n m C f0 a := rfl
    rw [hw] at j1
    by_cases e : (j : Int) = a
    · have : j = a.toNat := by omega
      rw [this]; exact y1
    · have h := y2 (j - a) (by omega) (by omega)
      rw [show (a + (j - a) : Int).toNat = j by omega] at h
      exact h
  · rw [if_neg h0] at y1 ⊢
    have hr := I.reg a h0
    obtain ⟨t1, t2, t3, t4⟩ := I.to_
    obtain ⟨u1, u2, u3, u4⟩ := I.old_
    have hT := V.to0
    have hO := V.old0
    have hn := V.n4
    exact atM_to hc e0 (fwdH_ok hok (by omega) (by omega)) rfl a1 a2 (by omega) y1 (y2 1 (by omega) (by omega))
theorem mvd_inv (V : Wd n m C f0 Y D T0 O0) (G : Yg n m C f0 Y D O0 yg) (I : Inv n m C f0 Y D T0 O0 φ sn s) (A : Acc (oK n m C f0) Y T0 O0 φ s) {x : Int} (hx : x = 0 ∨ x ∈ Y ∨ x ∈ D) :
    ∃ φ', Inv n m C f0 Y D T0 O0 φ' sn (mvd n m C yg thr s x).1 ∧ Acc (oK n m C f0) Y T0 O0 φ' (mvd n m C yg thr s x).1 ∧ (mvd n m C yg thr s x).2 = fm φ' x ∧ (x ∈ Y → φ' x ≠ 0) ∧ (∀ a, φ a ≠ 0 → φ' a = φ a) ∧ MvD (oK n m C f0) (fun q => (oH n m C f0 q).age < thr) φ φ' x s (mvd n m C yg thr s x).1 := by
  have hno : (x = 0 ∨ yg x = false) → φ x = 0 ∧ x ∉ Y := fun h => by
    have hY : x ∉ Y := fun hm => by
      rcases h with h | h
      · have := (V.obj x (.inl hm)).2.2.2.2.2.1; omega
      · rw [G.y x hm] at h; cases h
    refine ⟨?_, hY⟩
    by_cases h2 : φ x = 0
    · exact h2
    · exact absurd (I.phi x h2) hY
  by_cases h1 : x = 0 ∨ yg x = false
  · obtain ⟨p1, p2⟩ := hno h1
    unfold mvd
    rw [if_pos h1]
    exact ⟨φ, I, A, by unfold fm; rw [if_pos p1], fun h => absurd h p2, fun _ _ => rfl, .inl ⟨rfl, rfl, rfl⟩⟩
  · have hY : x ∈ Y := by
      rcases hx with h | h | h
      · exact absurd (.inl h) h1
      · exact h
      · exact absurd (.inr (G.d x h)) h1
    have hat := I.at_young V hY
    unfold mvd
    rw [if_neg h1, hat]
    dsimp only
    by_cases h0 : φ x = 0
    · rw [if_pos h0]
      have hfr := V.fresh x hY
      rw [if_neg (by rw [hfr]; exact fun h => h rfl)]
      have hk := (V.obj x (.inl hY)).2.2.2
      obtain ⟨t1, t2, t3, t4⟩ := I.to_
      obtain ⟨u1, u2, u3, u4⟩ := I.old_
      have hT := V.to0
      have hO := V.old0
      have hpos : ∀ a, a ∈ Y → 0 ≤ oK n m C f0 a := fun a ha => by have := (V.obj a (.inl ha)).2.2.2; omega
      unfold Acc at A
      by_cases hc : (oH n m C f0 x).age < thr ∧ oK n m C f0 x ≤ s.tt.e - s.tt.t
      · rw [if_pos hc]
        have hw := wsumF_set (K := oK n m C f0) h0 (b := s.tt.t) (by omega) G.nd hY
        refine ⟨setφ φ x s.tt.t, I.move V hY h0 rfl (.inl ⟨rfl, by omega, rfl, rfl, rfl⟩), ?_, ?_, fun _ => ?_, fun a ha => if_neg (fun e => ha (by rw [e]; exact h0)), .inr (.inl ⟨h0, rfl, rfl, rfl, by omega, hc.1⟩)⟩
        · unfold Acc
          rw [hw, ← A]
          dsimp only
          omega
        · unfold fm setφ
          rw [if_pos rfl, if_neg (by omega)]
        · unfold setφ
          rw [if_pos rfl]; omega
      · rw [if_neg hc]
        have hw := wsumF_set (K := oK n m C f0) h0 (b := s.od.t) (by omega) G.nd hY
        have hl := wsumF_le (φ := setφ φ x s.od.t) hpos
        have hrm := G.room
        refine ⟨setφ φ x s.od.t, I.move V hY h0 rfl (.inr ⟨rfl, by omega, rfl, rfl, rfl⟩), ?_, ?_, fun _ => ?_, fun a ha => if_neg (fun e => ha (by rw [e]; exact h0)), .inr (.inr ⟨h0, rfl, rfl, rfl, by omega⟩)⟩
        · unfold Acc
          rw [hw, ← A]
          dsimp only
          omega
        · unfold fm setφ
          rw [if_pos rfl, if_neg (by omega)]
        · unfold setφ
          rw [if_pos rfl]; omega
    · rw [if_neg h0]
      rw [if_pos (show (fwdH (oH n m C f0 x) (φ x)).fwd ≠ 0 from h0)]
      exact ⟨φ, I, A, by unfold fm; rw [if_neg h0]; rfl, fun _ => h0, fun _ _ => rfl, .inl ⟨rfl, rfl, rfl⟩⟩
end
/-- Those that were moved to a space, one behind the other. -/
inductive Chain (K φ : Int → Int) : Int → List Int → Int → Prop
  | nil (z : Int) : Chain K φ z [] z
  | cons {a x z : Int} {l : List Int} : φ a = x → Chain K φ (x + K a) l z → Chain K φ x (a :: l) z
theorem Chain.snoc {K φ : Int → Int} {x z a : Int} {l : List Int} (h : Chain K φ x l z) (ha : φ a = z) : Chain K φ x (l ++ [a]) (z + K a) := by
  induction h with
  | nil z => exact .cons ha (.nil _)
  | cons e _ ih => exact .cons e (ih ha)
theorem Chain.ext {K φ φ' : Int → Int} {x z : Int} {l : List Int} (h : Chain K φ x l z) (he : ∀ a, a ∈ l → φ' a = φ a) : Chain K φ' x l z := by
  induction h with
  | nil z => exact .nil _
  | cons e _ ih => exact .cons (by rw [he _ (List.mem_cons_self ..)]; exact e) (ih (fun a ha => he a (List.mem_cons_of_mem _ ha)))
/-- Which were moved, and where to, in order. -/
structure Lay15 (K : Int → Int) (Q : Int → Prop) (φ : Int → Int) (T0 O0 : Sp) (s : Sc) (LT LO : List Int) : Prop where
  t : Chain K φ T0.f LT s.tt.t
  o : Chain K φ O0.t LO s.od.t
  all : ∀ a, φ a ≠ 0 ↔ a ∈ LT ∨ a ∈ LO
  yt : ∀ a, a ∈ LT → Q a
theorem Lay15.step {K φ φ' : Int → Int} {Q : Int → Prop} {T0 O0 : Sp} {s s' : Sc} {LT LO : List Int} {x : Int} (h : Lay15 K Q φ T0 O0 s LT LO) (hm : MvD K Q φ φ' x s s') : ∃ A B, Lay15 K Q φ' T0 O0 s' (LT ++ A) (LO ++ B) := by
  have hne : ∀ b, φ x = 0 → φ' = setφ φ x b → ∀ a, a ∈ LT ∨ a ∈ LO → φ' a = φ a := fun b h0 e a ha => by
    rw [e]
    exact if_neg (fun e2 => ((h.all a).2 ha) (by rw [e2]; exact h0))
  have hal : ∀ b, b ≠ 0 → φ x = 0 → φ' = setφ φ x b → ∀ a, φ' a ≠ 0 ↔ a = x ∨ φ a ≠ 0 := fun b hb h0 e a => by
    rw [e]
    unfold setφ
    by_cases h2 : a = x
    · rw [if_pos h2]; exact ⟨fun _ => .inl h2, fun _ => hb⟩
    · rw [if_neg h2]; exact ⟨.inr, fun h3 => h3.resolve_left h2⟩
  rcases hm with ⟨rfl, h1, h2⟩ | ⟨h0, e, h1, h2, hb, hq⟩ | ⟨h0, e, h1, h2, hb⟩
  · exact ⟨[], [], by rw [List.append_nil, List.append_nil]; exact ⟨by rw [h1]; exact h.t, by rw [h2]; exact h.o, h.all, h.yt⟩⟩
  · refine ⟨[x], [], ?_, ?_, fun a => ?_, fun a ha => (List.mem_append.1 ha).elim (h.yt a) (fun ha => by rw [List.mem_singleton.1 ha]; exact hq)⟩
    · rw [h1]
      exact (h.t.ext (fun a ha => hne _ h0 e a (.inl ha))).snoc (by rw [e]; exact if_pos rfl)
    · rw [h2, List.append_nil]
      exact h.o.ext (fun a ha => hne _ h0 e a (.inr ha))
    · rw [hal _ hb h0 e, h.all, List.append_nil, List.mem_append, List.mem_singleton]
      exact ⟨fun q => by rcases q with q | q | q; exact .inl (.inr q); exact .inl (.inl q); exact .inr q, fun q => by rcases q with (q | q) | q; exact .inr (.inl q); exact .inl q; exact .inr (.inr q)⟩
  · refine ⟨[], [x], ?_, ?_, fun a => ?_, fun a ha => h.yt a (by rw [List.append_nil] at ha; exact ha)⟩
    · rw [h2, List.append_nil]
      exact h.t.ext (fun a ha => hne _ h0 e a (.inl ha))
    · rw [h1]
      exact (h.o.ext (fun a ha => hne _ h0 e a (.inr ha))).snoc (by rw [e]; exact if_pos rfl)
    · rw [hal _ hb h0 e, h.all, List.append_nil, List.mem_append, List.mem_singleton]
      exact ⟨fun q => by rcases q with q | q | q; exact .inr (.inr q); exact .inl q; exact .inr (.inl q), fun q => by rcases q with q | (q | q); exact .inr (.inl q); exact .inr (.inr q); exact .inl q⟩
/-- What an object refers to is moved, one reference after the other. -/
def scanR (mv : Sc → Int → Sc × Int) (p : Int) : Nat → List Int → Sc → Sc
  | _, [], s => s
  | i, x :: l, s => scanR mv p (i + 1) l { (mv s x).1 with f := putF (mv s x).1.f (p + 2 + i).toNat (mv s x).2 }
theorem snS_snS (sn : Int → Nat) (p : Int) (u v : Nat) : snS (snS sn p u) p v = snS sn p v := by
  funext q
  unfold snS
  by_cases e : q = p
  · rw [if_pos e, if_pos e]
  · rw [if_neg e, if_neg e, if_neg e]
theorem snS_self (sn : Int → Nat) (p : Int) : snS sn p (sn p) = sn := by
  funext q
  unfold snS
  by_cases e : q = p
  · rw [if_pos e, e]
  · rw [if_neg e]
section
variable {n m : Nat} {C : Nat → Cl} {f0 : Nat → Int} {Y D : List Int} {T0 O0 : Sp} {yg : Int → Bool} {thr : Int}
theorem scanR_inv (V : Wd n m C f0 Y D T0 O0) (G : Yg n m C f0 Y D O0 yg) (hcl : ∀ o, o ∈ Y ∨ o ∈ D → ∀ i : Nat, (i : Int) < oR n m C f0 o → f0 (o + 2 + i).toNat = 0 ∨ f0 (o + 2 + i).toNat ∈ Y ∨ f0 (o + 2 + i).toNat ∈ D) {o p : Int} :
    ∀ (l : List Int) (i : Nat) (φ : Int → Int) (sn : Int → Nat) (s : Sc), Inv n m C f0 Y D T0 O0 φ sn s → Acc (oK n m C f0) Y T0 O0 φ s → (o ∈ D ∨ φ o ≠ 0) → fm φ o = p → sn p = i → ((i + l.length : Nat) : Int) ≤ oR n m C f0 o → (∀ j, j < l.length → l.getD j 0 = f0 (o + 2 + ((i + j : Nat) : Int)).toNat) →
    ∃ φ', Inv n m C f0 Y D T0 O0 φ' (snS sn p (i + l.length)) (scanR (mvd n m C yg thr) p i l s) ∧ Acc (oK n m C f0) Y T0 O0 φ' (scanR (mvd n m C yg thr) p i l s) ∧ (∀ a, φ a ≠ 0 → φ' a = φ a) ∧ (∀ LT LO, Lay15 (oK n m C f0) (fun q => (oH n m C f0 q).age < thr) φ T0 O0 s LT LO → ∃ A B, Lay15 (oK n m C f0) (fun q => (oH n m C f0 q).age < thr) φ' T0 O0 (scanR (mvd n m C yg thr) p i l s) (LT ++ A) (LO ++ B)) ∧ ∀ P : Int → Prop, (∀ j, j < l.length → P (l.getD j 0)) → (∀ a, φ a ≠ 0 → P a) → ∀ a, φ' a ≠ 0 → P a
  | [], i, φ, sn, s, I, A, _, _, hs, _, _ => ⟨φ, by rw [List.length_nil, Nat.add_zero, ← hs, snS_self]; exact I, A, fun _ _ => rfl, (fun LT LO h => ⟨[], [], by rw [List.append_nil, List.append_nil]; exact h⟩), fun P _ h => h⟩
  | x :: l, i, φ, sn, s, I, A, ho, hp, hs, hl, hr => by
    have hYD : o ∈ Y ∨ o ∈ D := ho.elim (fun h => .inr h) (fun h => .inl (I.phi o h))
    have hx : x = f0 (o + 2 + (i : Int)).toNat := hr 0 (by simp)
    have hi : (i : Int) < oR n m C f0 o := by simp only [List.length_cons] at hl; omega
    have hxc := hcl o hYD i hi
    rw [← hx] at hxc
    obtain ⟨φ1, I1, A1, hv, hm, hext, hmv⟩ := mvd_inv (thr := thr) V G I A hxc
    have ho1 : o ∈ D ∨ φ1 o ≠ 0 := ho.imp_right (fun h => by rw [hext o h]; exact h)
    have hp1 : fm φ1 o = p := by
      rw [← hp]
      rcases ho with h | h
      · have z : ∀ ψ : Int → Int, (∀ x, ψ x ≠ 0 → x ∈ Y) → ψ o = 0 := fun ψ hψ => by
          by_cases h2 : ψ o = 0
          · exact h2
          · exact absurd h (V.yd o (hψ o h2))
        unfold fm
        rw [if_pos (z φ1 I1.phi), if_pos (z φ I.phi)]
      · unfold fm; rw [hext o h]
    have I2 := I1.scan1 (s' := { (mvd n m C yg thr s x).1 with f := putF (mvd n m C yg thr s x).1.f (p + 2 + i).toNat (mvd n m C yg thr s x).2 }) V ho1 (i := i) (by rw [hp1]; exact hs) hi hx hm (by rw [hp1, hv]) rfl rfl
    rw [hp1] at I2
    obtain ⟨φ2, J, B, he, hL, hP⟩ := scanR_inv V G hcl l (i + 1) φ1 (snS sn p (i + 1)) _ I2 A1 ho1 hp1 (if_pos rfl) (by simp only [List.length_cons] at hl; omega) (fun j hj => by
      have := hr (j + 1) (by simp only [List.length_cons]; omega)
      rw [List.getD_cons_succ] at this
      rw [this]
      congr 3
      omega)
    refine ⟨φ2, ?_, B, fun a ha => by rw [he a (by rw [hext a ha]; exact ha), hext a ha], (fun LT LO h => by
      obtain ⟨A1_, B1_, h1⟩ := h.step hmv
      obtain ⟨A2_, B2_, h2⟩ := hL (LT ++ A1_) (LO ++ B1_) ⟨h1.t, h1.o, h1.all, h1.yt⟩
      exact ⟨A1_ ++ A2_, B1_ ++ B2_, by rw [← List.append_assoc, ← List.append_assoc]; exact h2⟩), fun P hl2 h => hP P (fun j hj => by
      have := hl2 (j + 1) (by simp only [List.length_cons]; omega)
      rwa [List.getD_cons_succ] at this) (fun a ha => (hmv.only ha).elim (h a) (fun e => by rw [e]; exact hl2 0 (by simp)))⟩
    rw [snS_snS, show i + 1 + l.length = i + (x :: l).length by simp only [List.length_cons]; omega] at J
    exact J
end

end Go.Proofs.Ytabfbgkablbeeaa
