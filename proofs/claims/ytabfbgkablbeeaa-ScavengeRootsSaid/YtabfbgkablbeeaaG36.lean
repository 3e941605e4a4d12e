/- Layer 15's worlds: is an object old, does it lead to a young one? -/
import Derived.Test.YtabfbgkablbeeaaG22
import Derived.Test.YtabfbgkablbeeaaG15
import Derived.Test.YtabfbgkablbeeaaG24
set_option linter.all false

namespace Go.Proofs.Ytabfbgkablbeeaa
open Go.RowKit

section
variable {n m : Nat} {C : Nat → Cl} {f g : Nat → Int} {L : Nat → Sp} {G : Nat → List Int}
theorem HW.add (H : HW n m C f L G) {k : Nat} (hk : k < 3) {z : Int} (h0 : (atT n g m C (L k).t).2 = 0) (h1 : (atT n g m C (L k).t).1.is = true) (hz : (atT n g m C (L k).t).1.words = z) (h1z : 1 ≤ z) (hfit : (L k).t + z ≤ (L k).e)
    (hout : ∀ j : Nat, ¬ ((L k).t ≤ j ∧ (j : Int) < (L k).t + z) → g j = f j) (hr : ∀ i : Nat, (i : Int) < oR n m C g (L k).t → g ((L k).t + 2 + i).toNat = 0) :
    HW n m C g (fun j => if j = k then ⟨(L k).f, (L k).t + z, (L k).e⟩ else L j) (fun j => if j = k then G k ++ [(L k).t] else G j) := by
  have hap : ∀ j, j < 3 → ∀ i : Nat, (L j).f ≤ i → (i : Int) < (L j).t → g i = f i := fun j hj i a1 a2 => by
    apply hout
    intro ⟨b1, b2⟩
    have hb := H.bd j hj
    have hbk := H.bd k hk
    by_cases e : j = k
    · subst e; omega
    · have := H.sep j k hj hk e; omega
  have hsm : ∀ j, j < 3 → ∀ x, x ∈ G j → atT n g m C x = atT n f m C x ∧ ∀ i : Nat, (i : Int) < oR n m C f x → g (x + 2 + i).toNat = f (x + 2 + i).toNat := fun j hj x hx => by
    obtain ⟨e, _, _, q1, q2, q3, q4, q5, q6, _⟩ := H.obj hj hx
    refine ⟨atT_same H.ok (by rw [e]) (fun i i1 i2 => hap j hj i (by omega) (by have : (atT n f m C x).1.words = oK n m C f x := rfl; omega)), fun i hi => hap j hj _ (by omega) (by omega)⟩
  have hin : ∀ x, inG (fun j => if j = k then G k ++ [(L k).t] else G j) x ↔ inG G x ∨ x = (L k).t := fun x => by
    constructor
    · rintro ⟨j, hj, hx⟩
      dsimp only at hx
      by_cases e : j = k
      · rw [if_pos e] at hx
        rcases List.mem_append.1 hx with hx | hx
        · exact .inl ⟨k, hk, hx⟩
        · exact .inr (List.mem_singleton.1 hx)
      · rw [if_neg e] at hx; exact .inl ⟨j, hj, hx⟩
    · rintro (⟨j, hj, hx⟩ | rfl)
      · refine ⟨j, hj, ?_⟩
        dsimp only
        by_cases e : j = k
        · rw [if_pos e]; subst e; exact List.mem_append_left _ hx
        · rw [if_neg e]; exact hx
      · exact ⟨k, hk, by dsimp only; rw [if_pos rfl]; exact List.mem_append_right _ (List.mem_singleton.2 rfl)⟩
  refine ⟨H.ok, H.n4, fun j hj => ?_, fun i j hi hj hne => ?_, fun j hj => ?_, fun x hx i hi => ?_⟩
  · have hb := H.bd j hj
    by_cases e : j = k
    · subst e; rw [if_pos rfl]; show 1 ≤ (L j).f ∧ (L j).f ≤ (L j).t + z ∧ (L j).t + z ≤ (L j).e ∧ (L j).e ≤ n; omega
    · rw [if_neg e]; exact hb
  · have hs := H.sep i j hi hj hne
    by_cases e : i = k
    · by_cases e' : j = k
      · omega
      · rw [if_pos e, if_neg e']; subst e; exact hs
    · by_cases e' : j = k
      · rw [if_neg e, if_pos e']; subst e'; exact hs
      · rw [if_neg e, if_neg e']; exact hs
  · have ht : Tl (atT n g m C) (L j).f (L j).t (G j) := (H.tile j hj).congr (fun x hx => by
      rw [(hsm j hj x hx).1]
      obtain ⟨_, _, b3, b4, _⟩ := (H.tile j hj).bd x hx
      exact ⟨b3, b4, rfl⟩)
    by_cases e : j = k
    · subst e
      rw [if_pos rfl, if_pos rfl]
      refine ht.append (.cons h0 h1 (by rw [hz]; exact h1z) ?_)
      rw [hz]; exact .nil _
    · rw [if_neg e, if_neg e]; exact ht
  · rw [hin]
    rcases (hin x).1 hx with hx | rfl
    · obtain ⟨j, hj, hxj⟩ := hx
      obtain ⟨e1, e2⟩ := hsm j hj x hxj
      have hi' : (i : Int) < oR n m C f x := by
        have : oR n m C g x = (atT n g m C x).1.refs := rfl
        rw [this, e1] at hi; exact hi
      rw [e2 i hi']
      exact (H.ref x ⟨j, hj, hxj⟩ i hi').imp_right .inl
    · exact .inl (hr i hi)
end
theorem laid_at {n m : Nat} {f : Nat → Int} {C : Nat → Cl} {a c len : Int} (hC : ∀ j, j < m → (C j).ok) (hm : m < 64) (hE : shE C m c len = 0) (hT : thB n a (shW C m c len) = true) :
    atT n (layF f a (shW C m c len) (layW c (C (c - 1).toNat).fin) len) m C a = (⟨⟨c, 0, 0, false, (C (c - 1).toNat).fin, false⟩, shR C m c len, shD C m c len, shW C m c len⟩, 0) :=
  atT_laid hC hm hE hT (layF_at (by have := (thB_true.1 hT).1; omega)) layF_len
theorem atT_head {n m : Nat} {f g : Nat → Int} {C : Nat → Cl} {a : Int} {h h' : Hd} {r d k : Int} (hc : h.cls ≠ 0) (e : atT n f m C a = (⟨h, r, d, k⟩, 0)) (hk : h'.ok) (hcl : h'.cls = h.cls) (h1 : g a.toNat = hdW h') (h2 : g (a + 1).toNat = f (a + 1).toNat) : atT n g m C a = (⟨h', r, d, k⟩, 0) := by
  have h0 : (atT n f m C a).2 = 0 := by rw [e]
  obtain ⟨hT, _, hcs⟩ := at_cases h0
  rcases hcs with ⟨q1, _, q3⟩ | ⟨q1, _, _, _, _, q3⟩ | ⟨q1, q2, q3, q4, q5⟩
  · rw [e] at q3; injection q3 with q3; injection q3 with q3; rw [q3] at hc; exact absurd q1 hc
  · rw [e] at q3; injection q3 with q3; injection q3 with q3; rw [q3] at hc; exact absurd q1 hc
  · rw [e] at q5
    injection q5 with q5
    injection q5 with e1 e2 e3 e4
    have hraw : rawH (g a.toNat) = h' := by rw [h1]; exact raw_hdW hk
    have e0 : h'.cls = (rawH (f a.toNat)).cls := by rw [hcl, e1]
    rw [e2, e3, e4]
    refine atT_obj hT (by rw [hraw]; exact hk) hraw (by rw [hcl]; exact hc) q2 h2 (by rw [e0]; exact q3) (by rw [e0]) (by rw [e0]) q4
/-- Numbers that are written one behind the other. -/
def numF (f : Nat → Int) (p q v : Int) : Nat → Int := fun j => if p ≤ j ∧ (j : Int) < p + q then v + ((j : Int) - p) else f j
theorem numF_zero (f : Nat → Int) (p v : Int) : numF f p 0 v = f := by
  funext j; unfold numF; rw [if_neg (by omega)]
theorem numF_succ (f : Nat → Int) {p : Int} (hp : 0 ≤ p) (q : Nat) (v : Int) : putF (numF f p q v) (p + q).toNat (v + q) = numF f p ((q : Int) + 1) v := by
  funext j
  unfold putF numF
  by_cases e : j = (p + q).toNat
  · rw [if_pos e, if_pos (by omega)]; omega
  · rw [if_neg e]
    by_cases h : p ≤ j ∧ (j : Int) < p + q
    · rw [if_pos h, if_pos (by omega)]
    · rw [if_neg h, if_neg (by omega)]
theorem numF_out {f : Nat → Int} {p q v : Int} {j : Nat} (h : ¬ (p ≤ j ∧ (j : Int) < p + q)) : numF f p q v j = f j := by
  unfold numF; rw [if_neg h]
/-- A world that is being made: words, the tops, the objects of each space, all objects. -/
structure Lw where
  f : Nat → Int
  t : Nat → Int
  g : Nat → List Int
  at_ : List Int
def Lw.sp (s : Lw) (F E : Nat → Int) : Nat → Sp := fun j => ⟨F j, s.t j, E j⟩
/-- Where a thing lies. -/
def regW (wh : Int) : Nat := if wh % 4 = 3 then 0 else if wh % 4 = 2 then 2 else 1
def lenW (C : Nat → Cl) (c da : Int) : Int := if (C (c - 1).toNat).kind = 2 then da % 5 else 0
def headF (f : Nat → Int) (C : Nat → Cl) (m : Nat) (a c len ag : Int) : Nat → Int := putF (layF f a (shW C m c len) (layW c (C (c - 1).toNat).fin) len) a.toNat (hdW ⟨c, ag, 0, false, (C (c - 1).toNat).fin, false⟩)
def lwF (f : Nat → Int) (C : Nat → Cl) (m : Nat) (a c len ag v : Int) : Nat → Int := numF (headF f C m a c len ag) (a + 2 + shR C m c len) (shD C m c len) v
def Lw.lay (s : Lw) (C : Nat → Cl) (m : Nat) (E : Nat → Int) (cl ag wh da : Int) : Lw :=
  if E (regW wh) - s.t (regW wh) < shW C m (1 + cl % m) (lenW C (1 + cl % m) da) then s
  else ⟨lwF s.f C m (s.t (regW wh)) (1 + cl % m) (lenW C (1 + cl % m) da) (ag % 8) da, fun j => if j = regW wh then s.t (regW wh) + shW C m (1 + cl % m) (lenW C (1 + cl % m) da) else s.t j,
    fun j => if j = regW wh then s.g (regW wh) ++ [s.t (regW wh)] else s.g j, s.at_ ++ [s.t (regW wh)]⟩
theorem regW_lt (wh : Int) : regW wh < 3 := by unfold regW; split <;> (try split) <;> omega
/-- What holds of a world that is being made. -/
structure LwOk (n m : Nat) (C : Nat → Cl) (F E : Nat → Int) (s : Lw) : Prop where
  hw : HW n m C s.f (s.sp F E) s.g
  mem : ∀ x, x ∈ s.at_ ↔ inG s.g x
  nd : s.at_.Nodup
  i64 : ∀ j, j < n → I64 (s.f j)
section
variable {n m : Nat} {C : Nat → Cl} {f : Nat → Int} {a c len ag da : Int}
theorem headF_at (hC : ∀ j, j < m → (C j).ok) (hm : m < 64) (hE : shE C m c len = 0) (hT : thB n a (shW C m c len) = true) (hag : 0 ≤ ag ∧ ag < 8) :
    (⟨c, ag, 0, false, (C (c - 1).toNat).fin, false⟩ : Hd).ok ∧ atT n (headF f C m a c len ag) m C a = (⟨⟨c, ag, 0, false, (C (c - 1).toNat).fin, false⟩, shR C m c len, shD C m c len, shW C m c len⟩, 0) := by
  have hok := lay_ok hC hm hE
  have h1 := (thB_true.1 hT).1
  have hk : (⟨c, ag, 0, false, (C (c - 1).toNat).fin, false⟩ : Hd).ok := ⟨hok.2.1, ⟨hag.1, hag.2⟩, ⟨Int.le_refl 0, by show (0 : Int) < 4096; decide⟩, fun hh => by cases hh.2⟩
  refine ⟨hk, atT_head (show (⟨c, 0, 0, false, (C (c - 1).toNat).fin, false⟩ : Hd).cls ≠ 0 by show c ≠ 0; omega) (laid_at hC hm hE hT (f := f)) hk rfl ?_ ?_⟩
  · unfold headF; rw [putF_self]
  · unfold headF; rw [putF_ne (by omega)]
theorem lenW_ok (hC : ∀ j, j < m → (C j).ok) {cl : Int} (hm0 : 0 < m) (hm : m < 64) (hd : 0 ≤ da) : 1 ≤ 1 + cl % m ∧ 1 + cl % m ≤ m ∧ 0 ≤ lenW C (1 + cl % m) da ∧ lenW C (1 + cl % m) da ≤ 4 ∧ shE C m (1 + cl % m) (lenW C (1 + cl % m) da) = 0 := by
  have h1 := Int.emod_nonneg cl (show (m : Int) ≠ 0 by omega)
  have h2 := Int.emod_lt_of_pos cl (show (0 : Int) < (m : Int) by omega)
  have h3 : 0 ≤ lenW C (1 + cl % m) da ∧ lenW C (1 + cl % m) da ≤ 4 := by unfold lenW; split <;> omega
  refine ⟨by omega, by omega, h3.1, h3.2, ?_⟩
  unfold shE
  rw [if_neg (by omega), if_neg, if_neg (by omega)]
  intro hh
  rcases hh with hh | ⟨h4, h5⟩
  · omega
  · unfold lenW at h4; rw [if_neg h5] at h4; omega
theorem lwF_at (hC : ∀ j, j < m → (C j).ok) (hm : m < 64) (hE : shE C m c len = 0) (hT : thB n a (shW C m c len) = true) (hag : 0 ≤ ag ∧ ag < 8) :
    atT n (lwF f C m a c len ag da) m C a = (⟨⟨c, ag, 0, false, (C (c - 1).toNat).fin, false⟩, shR C m c len, shD C m c len, shW C m c len⟩, 0) := by
  have h1 := thB_true.1 hT
  have hb := sh_bd hC hE
  unfold lwF
  rw [atT_two (numF_out (by omega)) (numF_out (by omega))]
  exact (headF_at hC hm hE hT hag).2
theorem lwF_out (hC : ∀ j, j < m → (C j).ok) (hE : shE C m c len = 0) (ha : 0 ≤ a) {j : Nat} (h : ¬ (a ≤ j ∧ (j : Int) < a + shW C m c len)) : lwF f C m a c len ag da j = f j := by
  have hb := sh_bd hC hE
  have hw : shW C m c len = 2 + shR C m c len + shD C m c len := by unfold shW; rw [if_pos hE]
  unfold lwF headF
  rw [numF_out (by omega), putF_ne (by omega), layF_out (by omega) (by omega) (by omega)]
theorem lwF_ref (hC : ∀ j, j < m → (C j).ok) (hE : shE C m c len = 0) (ha : 0 ≤ a) {i : Nat} (h : (i : Int) < shR C m c len) : lwF f C m a c len ag da (a + 2 + i).toNat = 0 := by
  have hb := sh_bd hC hE
  have hw : shW C m c len = 2 + shR C m c len + shD C m c len := by unfold shW; rw [if_pos hE]
  unfold lwF headF
  rw [numF_out (by omega), putF_ne (by omega), layF_in (by omega) (by omega) (by omega)]
theorem i64_small' {x : Int} (h0 : -100000 ≤ x) (h1 : x ≤ 100000000) : I64 x := ⟨by omega, by omega⟩
theorem LwOk.lay {F E : Nat → Int} {s : Lw} (H : LwOk n m C F E s) (hm0 : 0 < m) (hm : m < 64) (hn : ∀ j, j < 3 → E j ≤ n - 1) {cl wh : Int} (hd : 0 ≤ da ∧ da ≤ 255) : LwOk n m C F E (s.lay C m E cl ag wh da) := by
  unfold Lw.lay
  split
  · exact H
  rename_i hroom
  have hC := H.hw.ok
  have hk := regW_lt wh
  generalize regW wh = k at *
  obtain ⟨hc1, hc2, hl0, hl4, hE⟩ := lenW_ok hC (cl := cl) (da := da) hm0 hm hd.1
  generalize lenW C (1 + cl % m) da = len at *
  generalize 1 + cl % m = c at *
  have hb := sh_bd hC hE
  have hw : shW C m c len = 2 + shR C m c len + shD C m c len := by unfold shW; rw [if_pos hE]
  have hbk : 1 ≤ F k ∧ F k ≤ s.t k ∧ s.t k ≤ E k ∧ E k ≤ n := H.hw.bd k hk
  have hnk := hn k hk
  have hT : thB n (s.t k) (shW C m c len) = true := thB_true.2 ⟨by omega, by omega, by omega, by omega⟩
  have hag : 0 ≤ ag % 8 ∧ ag % 8 < 8 := by omega
  have hat := lwF_at (f := s.f) (da := da) hC hm hE hT hag
  have hA := HW.add (g := lwF s.f C m (s.t k) c len (ag % 8) da) H.hw hk (z := shW C m c len) (by show (atT n _ m C (s.t k)).2 = 0; rw [hat]) (by show (atT n _ m C (s.t k)).1.is = true; rw [hat]; show (c != 0) = true; simp; omega) (by show (atT n _ m C (s.t k)).1.words = _; rw [hat]) (by omega) (by show s.t k + _ ≤ E k; omega)
    (fun j hj => lwF_out hC hE (by omega) hj) (fun i hi => lwF_ref hC hE (by omega) (by
      have : oR n m C (lwF s.f C m (s.t k) c len (ag % 8) da) (s.t k) = (atT n (lwF s.f C m (s.t k) c len (ag % 8) da) m C (s.t k)).1.refs := rfl
      have h2 : (i : Int) < oR n m C (lwF s.f C m (s.t k) c len (ag % 8) da) (s.t k) := hi
      rw [this, hat] at h2; exact h2))
  have hnew : s.t k ∉ s.at_ := fun hx => by
    obtain ⟨j, hj, hxj⟩ := (H.mem _).1 hx
    obtain ⟨_, _, _, q1, q2, q3, q4, q5, q6, _⟩ := H.hw.obj hj hxj
    have q5' : F j ≤ s.t k := q5
    have q6' : s.t k + oK n m C s.f (s.t k) ≤ s.t j := q6
    have hbj : 1 ≤ F j ∧ F j ≤ s.t j ∧ s.t j ≤ E j ∧ E j ≤ n := H.hw.bd j hj
    by_cases e : j = k
    · subst e; omega
    · have : E j ≤ F k ∨ E k ≤ F j := H.hw.sep j k hj hk e
      omega
  refine ⟨?_, fun x => ?_, ?_, fun j hj => ?_⟩
  · have e : (fun j => if j = k then (⟨(s.sp F E k).f, (s.sp F E k).t + shW C m c len, (s.sp F E k).e⟩ : Sp) else s.sp F E j) = Lw.sp ⟨lwF s.f C m (s.t k) c len (ag % 8) da, fun j => if j = k then s.t k + shW C m c len else s.t j, fun j => if j = k then s.g k ++ [s.t k] else s.g j, s.at_ ++ [s.t k]⟩ F E := by
      funext j
      unfold Lw.sp
      by_cases e : j = k
      · subst e; simp
      · simp [e]
    rw [← e]
    exact hA
  · rw [List.mem_append, H.mem]
    constructor
    · rintro (⟨j, hj, hx⟩ | hx)
      · refine ⟨j, hj, ?_⟩
        dsimp only
        by_cases e : j = k
        · rw [if_pos e]; subst e; exact List.mem_append_left _ hx
        · rw [if_neg e]; exact hx
      · exact ⟨k, hk, by dsimp only; rw [if_pos rfl]; exact List.mem_append_right _ hx⟩
    · rintro ⟨j, hj, hx⟩
      dsimp only at hx
      by_cases e : j = k
      · rw [if_pos e] at hx
        exact (List.mem_append.1 hx).imp_left (fun h => ⟨k, hk, h⟩)
      · rw [if_neg e] at hx; exact .inl ⟨j, hj, hx⟩
  · exact List.nodup_append.2 ⟨H.nd, by simp, fun x hx y hy e => hnew (by simp at hy; rw [← hy, ← e]; exact hx)⟩
  · have hk2 := headF_at (f := s.f) hC hm hE hT hag
    have b1 := hdW_bd hk2.1
    have b2 := hdW_bd (lay_ok hC hm hE).2
    have h3 := H.i64 j hj
    dsimp only
    unfold lwF numF
    split
    · exact i64_small' (by omega) (by omega)
    · unfold headF putF
      split
      · exact i64_small' (by omega) (by omega)
      · unfold layF putF fillF
        split
        · exact i64_small' (by omega) (by omega)
        · split
          · exact i64_small' (by omega) (by omega)
          · exact h3
end

end Go.Proofs.Ytabfbgkablbeeaa

namespace Go.Proofs.Ytabfbgkablbeeaa
open Go.RowKit

def oldB (x : Int) : Bool := decide (1 ≤ x) && decide (x < 401)
theorem old_any (v : Value) (x : Int) (w : World) : Calls Try.prog 9 #[v, .int .i64 x] w fun e w' => e = .returned (.bool (oldB x)) ∧ Keeps w w' := by
  go_enter Try.func9, Try.ntmps9
  unfold oldB
  by_cases h1 : 1 ≤ x
  · by_cases h2 : x < 401
    · go_wp2_with fail
      go_ret
      exact ⟨by simp [h1, h2], (Touch.refl _ w)⟩
    · have h2d : decide (x < 401) = false := decide_eq_false h2
      go_wp2_with fail
      go_ret
      exact ⟨by simp [h1, h2], (Touch.refl _ w)⟩
  · have h1d : decide (1 ≤ x) = false := decide_eq_false h1
    go_wp2_with fail
    go_ret
    exact ⟨by simp [h1], (Touch.refl _ w)⟩
/-- What is neither nothing nor old. -/
def notOld (x : Int) : Bool := !(x == 0) && !oldB x
set_option maxHeartbeats 1000000 in
theorem lleads_any (ba bw n : Nat) (f : Nat → Int) (bt : Nat) (A : Option Addr) (m cap : Nat) (C : Nat → Cl) (w : World) (h : St w ba bw n f bt A m cap C) (xb : Nat)
    (c1 : w.cell? ⟨xb, 2, none⟩ = some (.pointer (some ⟨ba, 0, none⟩))) (c2 : w.cell? ⟨xb, 3, none⟩ = some (.pointer (some ⟨bt, 0, none⟩))) (a : Int) (hq : (objP (atT n f m C a)).2 = 0) :
    Calls Try.prog 19 #[.pointer (some ⟨xb, 0, none⟩), .int .i64 a] w (Tells (LeadsTo n m C f notOld a) w) := by
  have hSt := Lib.hid h
  obtain ⟨k1, k2, k3, k4, k5, k6⟩ := obj_ok h.tb.ok hq
  have HSh := Lib.hid (fun w' (h : St w' ba bw n f bt A m cap C) => oshape_any ba bw n f bt A m cap C w' h a)
  have HRf := Lib.hid (fun w' (h : St w' ba bw n f bt A m cap C) (i : Int) (h0 : 0 ≤ i) (h1 : i < (objP (atT n f m C a)).1.refs) => ref_in ba bw n f bt A m cap C w' h a i hq h0 h1)
  have HOl := Lib.hid (fun x w => old_any (.pointer (some ⟨xb, 0, none⟩)) x w)
  have C1 := Lib.hid c1
  have C2 := Lib.hid c2
  clear h hq
  unfold stV at *
  unfold LeadsTo
  generalize objP (atT n f m C a) = q at *
  go_enter Try.func19, Try.ntmps19
  go_wp2_with fail
  refine Calls.mono (HSh.out _ hSt.out) ?_
  rintro e w1 ⟨rfl, K1⟩
  clear c1 c2
  go_wp2_with fail
  go_loopw [22] (fun i wr => ∃ k : Nat, (k : Int) ≤ q.1.refs ∧ i = .int .i64 k ∧ (∀ j : Nat, j < k → ¬ notOld (f (a + 2 + j).toNat) = true) ∧ Keeps w wr) (fun i _ => (q.1.refs - intOf i).toNat)
  case atStart => exact ⟨0, by omega, rfl, fun j hj => by omega, K1⟩
  case round =>
    obtain ⟨wo, rfl⟩ : ∃ wo : World, wo = wr := ⟨_, rfl⟩
    obtain ⟨k, hk, rfl, hno, K⟩ := hrel
    have HNo := Lib.hid hno
    clear hno
    by_cases hlt : (k : Int) < q.1.refs
    · have c1 := cell_keep C1.out K
      have c2 := cell_keep C2.out K
      go_wp2_with fail
      refine Calls.mono (HRf.out _ (hSt.out.keep K) _ (by omega) hlt) ?_
      rintro e w3 ⟨rfl, k3⟩
      have K3 := Keeps.trans K k3
      clear c1 c2
      have hx0 : refAt a k = a + 2 + k := rfl
      generalize hx : f (refAt a k).toNat = x at *
      have HX := Lib.hid (show f (a + 2 + (k : Int)).toNat = x from hx)
      clear hx hx0
      by_cases hx0 : x = 0
      · have hxb : (x != 0) = false := by simp [hx0]
        have HZ := Lib.hid hx0
        clear hx0
        go_wp2_with fail
        go_roundw
        case rel => exact ⟨k + 1, by omega, by go_num, fun j hj => by
          by_cases e : j = k
          · rw [e, HX.out, HZ.out]; decide
          · exact HNo.out j (by omega), K3⟩
        case measure => simp [intOf]; omega
      · have hxb : (x != 0) = true := by simp [hx0]
        have HZ := Lib.hid hx0
        clear hx0
        go_wp2_with fail
        refine Calls.mono (HOl.out x _) ?_
        rintro e w4 ⟨rfl, k4⟩
        have K4 := Keeps.trans K3 k4
        have HB := Lib.hid (show notOld x = !oldB x by unfold notOld; rw [show (x == 0) = false from by simpa using HZ.out]; rfl)
        generalize oldB x = b at *
        cases b with
        | true =>
          go_wp2_with fail
          go_roundw
          case rel => exact ⟨k + 1, by omega, by go_num, fun j hj => by
            by_cases e : j = k
            · rw [e, HX.out, HB.out]; decide
            · exact HNo.out j (by omega), K4⟩
          case measure => simp [intOf]; omega
        | false =>
          go_wp2_with fail
          go_ret
          exact ⟨true, rfl, ⟨fun _ => ⟨k, hlt, by rw [HX.out, HB.out]; rfl⟩, fun _ => rfl⟩, K4⟩
    · have hkd : decide ((k : Int) < q.1.refs) = false := decide_eq_false hlt
      go_wp2_with fail
      go_ret
      exact ⟨false, rfl, ⟨fun h => (by cases h), fun ⟨j, h1, h2⟩ => absurd h2 (HNo.out j (by omega))⟩, K⟩

end Go.Proofs.Ytabfbgkablbeeaa
