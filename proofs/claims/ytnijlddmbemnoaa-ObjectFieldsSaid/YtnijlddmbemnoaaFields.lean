/- The law ObjectFields. -/
import Derived.Test.YtnijlddmbemnoaaLays
import Derived.Test.YtnijlddmbemnoaaTake
namespace Go.Proofs.Ytnijlddmbemnoaa
open Go.RowKit

theorem atT_congr {n m : Nat} {f g : Nat → Int} {C : Nat → Cl} {a : Int} (h1 : g a.toNat = f a.toNat) (h2 : g (a + 1).toNat = f (a + 1).toNat) : atT n g m C a = atT n f m C a := by
  unfold atT
  rw [h1, h2]
/-- The first object's fields, of which so many have been laid. -/
def fldF (f : Nat → Int) (r d : Int) (i j : Nat) (R D : Nat → Int) : Nat → Int := fun p =>
  if 3 ≤ p ∧ (p : Int) < 3 + r ∧ p < 3 + i then R (p - 3) else if 3 + r ≤ p ∧ (p : Int) < 3 + r + d ∧ (p : Int) < 3 + r + j then D (p - (3 + r).toNat) else f p
structure FldF (f : Nat → Int) (m : Nat) (C : Nat → Cl) (r d : Int) : Prop where
  bd : 0 ≤ r ∧ 0 ≤ d ∧ r + d ≤ 30
  obj : ∃ hd : Hd, hd.cls ≠ 0 ∧ objP (atT 200 f m C 1) = (⟨hd, r, d, 2 + r + d⟩, 0)
  zero : ∀ p : Nat, 3 ≤ p → (p : Int) < 3 + r + d → f p = 0
theorem flds_facts {m : Nat} {C : Nat → Cl} (hC : ∀ j, j < m → (C j).ok) (hm : m < 64) {c : Nat} (hE : shE C m (1 + (c : Int)) 0 = 0) (hk : shW C m (1 + (c : Int)) 0 ≤ 32) {k2 : Int} (hk2 : 2 ≤ k2) (W2 : Int) :
    FldF (layF (layF (fun _ => 0) 1 (shW C m (1 + (c : Int)) 0) (layW (1 + c) (C (1 + (c : Int) - 1).toNat).fin) 0) 100 k2 W2 0) m C (shR C m (1 + (c : Int)) 0) (shD C m (1 + (c : Int)) 0) := by
  obtain ⟨b1, b2, b3, b4⟩ := sh_bd hC hE
  have hw : shW C m (1 + (c : Int)) 0 = 2 + shR C m (1 + (c : Int)) 0 + shD C m (1 + (c : Int)) 0 := by unfold shW; rw [if_pos hE]
  have lo : ∀ j : Nat, (j : Int) < 100 → layF (layF (fun _ => 0) 1 (shW C m (1 + (c : Int)) 0) (layW (1 + c) (C (1 + (c : Int) - 1).toNat).fin) 0) 100 k2 W2 0 j = layF (fun _ => 0) 1 (shW C m (1 + (c : Int)) 0) (layW (1 + c) (C (1 + (c : Int) - 1).toNat).fin) 0 j := fun j hj =>
    layF_out (by omega) hk2 (.inl hj)
  have hT : thB 200 1 (shW C m (1 + (c : Int)) 0) = true := thB_true.2 ⟨by omega, by omega, by omega, by omega⟩
  have h1 := lo (1 : Int).toNat (by decide)
  have h2 := lo (1 + 1 : Int).toNat (by decide)
  rw [layF_at (by decide)] at h1
  rw [layF_len] at h2
  have hat := atT_laid (n := 200) hC hm hE hT h1 h2
  refine ⟨⟨b1, b3, by omega⟩, ⟨⟨1 + c, 0, 0, false, (C (1 + (c : Int) - 1).toNat).fin, false⟩, by show (1 + (c : Int)) ≠ 0; omega, ?_⟩, fun p h3 h4 => ?_⟩
  · rw [hat, objP_same (fun h => by have := h.2; dsimp only at this; omega), hw]
  · rw [lo p (by omega)]
    exact layF_in (by omega) (by omega) (by omega)
section
variable {f : Nat → Int} {m : Nat} {C : Nat → Cl} {r d : Int} {R D : Nat → Int} {i j : Nat}
theorem fldF_zero : fldF f r d 0 0 R D = f := by
  funext p
  unfold fldF
  rw [if_neg (by omega), if_neg (by omega)]
theorem fldF_obj (h : FldF f m C r d) : ∃ hd : Hd, hd.cls ≠ 0 ∧ objP (atT 200 (fldF f r d i j R D) m C 1) = (⟨hd, r, d, 2 + r + d⟩, 0) := by
  obtain ⟨hd, h1, h2⟩ := h.obj
  refine ⟨hd, h1, ?_⟩
  rw [atT_congr (f := f) (by unfold fldF; obtain ⟨b1, _⟩ := h.bd; rw [if_neg (by simp), if_neg (by intro hh; have := hh.1; simp at this; omega)]) (by unfold fldF; obtain ⟨b1, _⟩ := h.bd; rw [if_neg (by simp), if_neg (by intro hh; have := hh.1; simp at this; omega)])]
  exact h2
theorem fldF_head (h : FldF f m C r d) : objP (atT 200 (fldF f r d i j R D) m C 1) = objP (atT 200 f m C 1) := by
  rw [atT_congr (f := f) (by unfold fldF; obtain ⟨b1, _⟩ := h.bd; rw [if_neg (by simp), if_neg (by intro hh; have := hh.1; simp at this; omega)]) (by unfold fldF; obtain ⟨b1, _⟩ := h.bd; rw [if_neg (by simp), if_neg (by intro hh; have := hh.1; simp at this; omega)])]
theorem fld_ref_past {q : Nat} (hge : r ≤ (q : Int)) : fldF f r d (q + 1) 0 R D = fldF f r d q 0 R D := by
  funext p
  unfold fldF
  by_cases h : 3 ≤ p ∧ (p : Int) < 3 + r ∧ p < 3 + q
  · rw [if_pos h, if_pos (by omega)]
  · rw [if_neg h, if_neg (by omega)]
theorem fld_num_past {q : Nat} (hge : d ≤ (q : Int)) : fldF f r d i (q + 1) R D = fldF f r d i q R D := by
  funext p
  unfold fldF
  (repeat' split) <;> first | rfl | (exfalso; omega) | (congr 1; omega)
variable {w : World} {ba bw bt : Nat} {A : Option Addr} {cap : Nat}
theorem fld_setref_yes (h : FldF f m C r d) {q : Nat} (hS : St w ba bw 200 (fldF f r d q 0 R D) bt A m cap C) (hin : (q : Int) < r) :
    Calls Try.prog 13 #[.agg #[.pointer (some ⟨ba, 0, none⟩), .pointer (some ⟨bt, 0, none⟩)], .int .i64 1, .int .i64 (q : Int), .int .i64 (R q)] w fun e w' => e = .returned (.int .i64 0) ∧ St w' ba bw 200 (fldF f r d (q + 1) 0 R D) bt A m cap C ∧ Only bw w w' := by
  obtain ⟨hd, h1, h2⟩ := fldF_obj h (i := q) (j := 0) (R := R) (D := D)
  have hr := setref_yes ba bw 200 _ bt A m cap C w hS 1 q (R q) (slE_zero.2 ⟨by rw [h2], by omega, by rw [h2]; exact hin⟩)
  have e : putF (fldF f r d q 0 R D) (refAt 1 q).toNat (R q) = fldF f r d (q + 1) 0 R D := by
    funext p
    have e2 : (refAt 1 q).toNat = 3 + q := by unfold refAt; omega
    unfold putF fldF
    rw [e2]
    (repeat' split) <;> first | rfl | (exfalso; omega) | (congr 1; omega)
  rw [e] at hr
  exact hr
theorem fld_setref_no (h : FldF f m C r d) {q : Nat} (hS : St w ba bw 200 (fldF f r d q 0 R D) bt A m cap C) (hge : r ≤ (q : Int)) :
    Calls Try.prog 13 #[.agg #[.pointer (some ⟨ba, 0, none⟩), .pointer (some ⟨bt, 0, none⟩)], .int .i64 1, .int .i64 (q : Int), .int .i64 (R q)] w fun e w' => e = .returned (.int .i64 1) ∧ Keeps w w' := by
  obtain ⟨hd, h1, h2⟩ := fldF_obj h (i := q) (j := 0) (R := R) (D := D)
  have hE : slE (objP (atT 200 (fldF f r d q 0 R D) m C 1)) (objP (atT 200 (fldF f r d q 0 R D) m C 1)).1.refs q = 1 := by
    rw [h2]; unfold slE; rw [if_pos rfl, if_neg (by dsimp only; omega)]
  have hr := setref_no ba bw 200 _ bt A m cap C w hS 1 q (R q) (by rw [hE]; decide)
  rw [hE] at hr
  exact hr
theorem fld_setnum_yes (h : FldF f m C r d) {q : Nat} (hS : St w ba bw 200 (fldF f r d i q R D) bt A m cap C) (hin : (q : Int) < d) :
    Calls Try.prog 14 #[.agg #[.pointer (some ⟨ba, 0, none⟩), .pointer (some ⟨bt, 0, none⟩)], .int .i64 1, .int .i64 (q : Int), .int .i64 (D q)] w fun e w' => e = .returned (.int .i64 0) ∧ St w' ba bw 200 (fldF f r d i (q + 1) R D) bt A m cap C ∧ Only bw w w' := by
  obtain ⟨hd, h1, h2⟩ := fldF_obj h (i := i) (j := q) (R := R) (D := D)
  obtain ⟨b1, b2, b3⟩ := h.bd
  have hr := setnum_yes ba bw 200 _ bt A m cap C w hS 1 q (D q) (slE_zero.2 ⟨by rw [h2], by omega, by rw [h2]; exact hin⟩)
  have e : putF (fldF f r d i q R D) (numAt (objP (atT 200 (fldF f r d i q R D) m C 1)) 1 q).toNat (D q) = fldF f r d i (q + 1) R D := by
    funext p
    have e2 : ((numAt (objP (atT 200 (fldF f r d i q R D) m C 1)) 1 q).toNat : Int) = 3 + r + q := by rw [h2]; unfold numAt; dsimp only; omega
    generalize (numAt (objP (atT 200 (fldF f r d i q R D) m C 1)) 1 q).toNat = v at *
    unfold putF fldF
    (repeat' split) <;> first | rfl | (exfalso; omega) | (congr 1; omega)
  rw [e] at hr
  exact hr
theorem fld_setnum_no (h : FldF f m C r d) {q : Nat} (hS : St w ba bw 200 (fldF f r d i q R D) bt A m cap C) (hge : d ≤ (q : Int)) :
    Calls Try.prog 14 #[.agg #[.pointer (some ⟨ba, 0, none⟩), .pointer (some ⟨bt, 0, none⟩)], .int .i64 1, .int .i64 (q : Int), .int .i64 (D q)] w fun e w' => e = .returned (.int .i64 1) ∧ Keeps w w' := by
  obtain ⟨hd, h1, h2⟩ := fldF_obj h (i := i) (j := q) (R := R) (D := D)
  have hE : slE (objP (atT 200 (fldF f r d i q R D) m C 1)) (objP (atT 200 (fldF f r d i q R D) m C 1)).1.data q = 1 := by
    rw [h2]; unfold slE; rw [if_pos rfl, if_neg (by dsimp only; omega)]
  have hr := setnum_no ba bw 200 _ bt A m cap C w hS 1 q (D q) (by rw [hE]; decide)
  rw [hE] at hr
  exact hr
/-- What the fields are behind that. -/
theorem fld_ref_at (h : FldF f m C r d) {nr nd q : Nat} (hS : St w ba bw 200 (fldF f r d nr nd R D) bt A m cap C) (hin : (q : Int) < r) :
    Calls Try.prog 18 #[.agg #[.pointer (some ⟨ba, 0, none⟩), .pointer (some ⟨bt, 0, none⟩)], .int .i64 1, .int .i64 (q : Int)] w fun e w' => e = .returned (.tuple #[.int .i64 (if q < nr then R q else 0), .int .i64 0]) ∧ Keeps w w' := by
  obtain ⟨hd, h1, h2⟩ := fldF_obj h (i := nr) (j := nd) (R := R) (D := D)
  have hr := ref_any ba bw 200 _ bt A m cap C w hS 1 q
  have hE : slE (objP (atT 200 (fldF f r d nr nd R D) m C 1)) (objP (atT 200 (fldF f r d nr nd R D) m C 1)).1.refs q = 0 := slE_zero.2 ⟨by rw [h2], by omega, by rw [h2]; exact hin⟩
  have e : fldF f r d nr nd R D (refAt 1 q).toNat = if q < nr then R q else 0 := by
    have e2 : (refAt 1 q).toNat = 3 + q := by unfold refAt; omega
    obtain ⟨b1, b2, b3⟩ := h.bd
    rw [e2]
    unfold fldF
    by_cases hq : q < nr
    · rw [if_pos (by omega), if_pos hq]; congr 1; omega
    · rw [if_neg (by omega), if_neg (by omega), if_neg hq]; exact h.zero _ (by omega) (by omega)
  rw [if_pos hE, hE, e] at hr
  exact hr
theorem fld_num_at (h : FldF f m C r d) {nr nd q : Nat} (hS : St w ba bw 200 (fldF f r d nr nd R D) bt A m cap C) (hin : (q : Int) < d) :
    Calls Try.prog 19 #[.agg #[.pointer (some ⟨ba, 0, none⟩), .pointer (some ⟨bt, 0, none⟩)], .int .i64 1, .int .i64 (q : Int)] w fun e w' => e = .returned (.tuple #[.int .i64 (if q < nd then D q else 0), .int .i64 0]) ∧ Keeps w w' := by
  obtain ⟨hd, h1, h2⟩ := fldF_obj h (i := nr) (j := nd) (R := R) (D := D)
  obtain ⟨b1, b2, b3⟩ := h.bd
  have hr := num_any ba bw 200 _ bt A m cap C w hS 1 q
  have hE : slE (objP (atT 200 (fldF f r d nr nd R D) m C 1)) (objP (atT 200 (fldF f r d nr nd R D) m C 1)).1.data q = 0 := slE_zero.2 ⟨by rw [h2], by omega, by rw [h2]; exact hin⟩
  have e : fldF f r d nr nd R D (numAt (objP (atT 200 (fldF f r d nr nd R D) m C 1)) 1 q).toNat = if q < nd then D q else 0 := by
    have e2 : ((numAt (objP (atT 200 (fldF f r d nr nd R D) m C 1)) 1 q).toNat : Int) = 3 + r + q := by rw [h2]; unfold numAt; dsimp only; omega
    generalize (numAt (objP (atT 200 (fldF f r d nr nd R D) m C 1)) 1 q).toNat = p at *
    unfold fldF
    rw [if_neg (by omega)]
    by_cases hq : q < nd
    · rw [if_pos (by omega), if_pos hq]; congr 1; omega
    · rw [if_neg (by omega), if_neg hq]; exact h.zero _ (by omega) (by omega)
  rw [if_pos hE, hE, e] at hr
  exact hr
theorem fld_far (h : FldF f m C r d) {p : Nat} (hp : 100 ≤ p) : fldF f r d i j R D p = f p := by
  obtain ⟨b1, b2, b3⟩ := h.bd
  unfold fldF
  rw [if_neg (by omega), if_neg (by omega)]
theorem fld_same (h : FldF f m C r d) : sameB 40 (fun k => ((List.range (40 : Int).toNat).map fun k => f ((100 : Int).toNat + k)).getD k 0) 40 (fun k => ((List.range (40 : Int).toNat).map fun k => fldF f r d i j R D ((100 : Int).toNat + k)).getD k 0) = true := by
  refine sameB_true fun k hk => ?_
  have := fld_far (i := i) (j := j) (R := R) (D := D) h (p := 100 + k) (by omega)
  simp [List.getD_eq_getElem?_getD, hk, this]
end

set_option maxRecDepth 100000 in
set_option maxHeartbeats 4000000 in
theorem ofields_longr (w : World) (A : Option Addr) (m cap : Nat) (hA : A = none → m = 0 ∧ cap = 0) (C : Nat → Cl) (hr : Rd w A (m * 4) (clF C)) (x y : Int) (hx : 0 ≤ x ∧ x ≤ 255) (hy : 0 ≤ y ∧ y ≤ 255) (AR : Option Addr) (nr cr : Nat) (R : Nat → Int) (hR : Rd w AR nr (intF .i64 R)) (AD : Option Addr) (nd cd : Nat) (D : Nat → Int) (hD : Rd w AD nd (intF .i64 D)) (hn : 60 < nr) : Calls Try.prog 5 #[.slice A m cap, .int .u8 x, .int .u8 y, .slice AR nr cr, .slice AD nd cd] w fun e w' => e = .returned (.bool true) ∧ Keeps w w' := by
  have hn' : (60 : Int) < (nr : Int) := by omega
  clear hr hR hD hA
  go_enter Try.func5, Try.ntmps5
  go_wp2_with fail
  have K0 := Touch.refl (fun _ => False) w
  refine Calls.mono (awake_any _) ?_
  rintro e w1 ⟨rfl, kw1⟩
  have Kw1 := Keeps.trans K0 kw1
  have zw1 := kw1.size
  clear K0 kw1
  go_wp2_with fail
  refine Calls.mono (awake_any _) ?_
  rintro e w2 ⟨rfl, kw2⟩
  have Kw2 := Keeps.trans Kw1 kw2
  have zw2 := kw2.size
  clear Kw1 kw2
  go_wp2_with fail
  go_ret
  exact ⟨rfl, Kw2⟩

set_option maxRecDepth 100000 in
set_option maxHeartbeats 4000000 in
theorem ofields_longd (w : World) (A : Option Addr) (m cap : Nat) (hA : A = none → m = 0 ∧ cap = 0) (C : Nat → Cl) (hr : Rd w A (m * 4) (clF C)) (x y : Int) (hx : 0 ≤ x ∧ x ≤ 255) (hy : 0 ≤ y ∧ y ≤ 255) (AR : Option Addr) (nr cr : Nat) (R : Nat → Int) (hR : Rd w AR nr (intF .i64 R)) (AD : Option Addr) (nd cd : Nat) (D : Nat → Int) (hD : Rd w AD nd (intF .i64 D)) (hn : 60 < nd) (hn2 : nr ≤ 60) : Calls Try.prog 5 #[.slice A m cap, .int .u8 x, .int .u8 y, .slice AR nr cr, .slice AD nd cd] w fun e w' => e = .returned (.bool true) ∧ Keeps w w' := by
  have hn' : (60 : Int) < (nd : Int) := by omega
  have hn3 : (nr : Int) ≤ 60 := by omega
  clear hr hR hD hA
  go_enter Try.func5, Try.ntmps5
  go_wp2_with fail
  have K0 := Touch.refl (fun _ => False) w
  refine Calls.mono (awake_any _) ?_
  rintro e w1 ⟨rfl, kw1⟩
  have Kw1 := Keeps.trans K0 kw1
  have zw1 := kw1.size
  clear K0 kw1
  go_wp2_with fail
  refine Calls.mono (awake_any _) ?_
  rintro e w2 ⟨rfl, kw2⟩
  have Kw2 := Keeps.trans Kw1 kw2
  have zw2 := kw2.size
  clear Kw1 kw2
  go_wp2_with fail
  go_ret
  exact ⟨rfl, Kw2⟩

set_option maxRecDepth 100000 in
set_option maxHeartbeats 4000000 in
theorem ofields_full (w : World) (A : Option Addr) (m cap : Nat) (hA : A = none → m = 0 ∧ cap = 0) (C : Nat → Cl) (hr : Rd w A (m * 4) (clF C)) (x y : Int) (hx : 0 ≤ x ∧ x ≤ 255) (hy : 0 ≤ y ∧ y ≤ 255) (AR : Option Addr) (nr cr : Nat) (R : Nat → Int) (hR : Rd w AR nr (intF .i64 R)) (AD : Option Addr) (nd cd : Nat) (D : Nat → Int) (hD : Rd w AD nd (intF .i64 D)) (s1 : nr ≤ 60) (s2 : nd ≤ 60) (hn : 100 < m) : Calls Try.prog 5 #[.slice A m cap, .int .u8 x, .int .u8 y, .slice AR nr cr, .slice AD nd cd] w fun e w' => e = .returned (.bool true) ∧ Keeps w w' := by
  have s3 : ¬ ((60 : Int) < (nr : Int)) := by omega
  have s4 : ¬ ((60 : Int) < (nd : Int)) := by omega
  have HB := Lib.hid (fun w' (k : Keeps w w') => both_full A m cap hA C 200 (by omega) w' (hr.keep k) hn)
  clear hr hA hn hR hD
  have hz1 := zero_st
  have hz2 := zero_rst
  go_enter Try.func5, Try.ntmps5
  go_wp2_with fail
  have K0 := Touch.refl (fun _ => False) w
  refine Calls.mono (awake_any _) ?_
  rintro e w1 ⟨rfl, kw1⟩
  have Kw1 := Keeps.trans K0 kw1
  have zw1 := kw1.size
  clear K0 kw1
  go_wp2_with fail
  refine Calls.mono (HB.out _ Kw1) ?_
  rintro e w2 ⟨rfl, kw2⟩
  have Kw2 := Keeps.trans Kw1 kw2
  have zw2 := kw2.size
  clear Kw1 kw2
  go_wp2_with fail
  go_ret
  exact ⟨rfl, ((Kw2.alloc _).alloc _)⟩

set_option maxRecDepth 100000 in
set_option maxHeartbeats 4000000 in
theorem ofields_bad (w : World) (A : Option Addr) (m cap : Nat) (hA : A = none → m = 0 ∧ cap = 0) (C : Nat → Cl) (hr : Rd w A (m * 4) (clF C)) (x y : Int) (hx : 0 ≤ x ∧ x ≤ 255) (hy : 0 ≤ y ∧ y ≤ 255) (AR : Option Addr) (nr cr : Nat) (R : Nat → Int) (hR : Rd w AR nr (intF .i64 R)) (AD : Option Addr) (nd cd : Nat) (D : Nat → Int) (hD : Rd w AD nd (intF .i64 D)) (s1 : nr ≤ 60) (s2 : nd ≤ 60) (hn : m ≤ 100 ∧ newE C m ≠ 0) : Calls Try.prog 5 #[.slice A m cap, .int .u8 x, .int .u8 y, .slice AR nr cr, .slice AD nd cd] w fun e w' => e = .returned (.bool true) ∧ Keeps w w' := by
  have s3 : ¬ ((60 : Int) < (nr : Int)) := by omega
  have s4 : ¬ ((60 : Int) < (nd : Int)) := by omega
  have HB := Lib.hid (fun w' (k : Keeps w w') => both_bad A m cap hA C 200 (by omega) w' (hr.keep k) hn)
  clear hr hA hn hR hD
  have hz1 := zero_st
  have hz2 := zero_rst
  go_enter Try.func5, Try.ntmps5
  go_wp2_with fail
  have K0 := Touch.refl (fun _ => False) w
  refine Calls.mono (awake_any _) ?_
  rintro e w1 ⟨rfl, kw1⟩
  have Kw1 := Keeps.trans K0 kw1
  have zw1 := kw1.size
  clear K0 kw1
  go_wp2_with fail
  refine Calls.mono (HB.out _ Kw1) ?_
  rintro e w2 ⟨rfl, kw2⟩
  have Kw2 := Keeps.trans Kw1 kw2
  have zw2 := kw2.size
  clear Kw1 kw2
  go_wp2_with fail
  go_ret
  exact ⟨rfl, ((Kw2.alloc _).alloc _)⟩

set_option maxRecDepth 100000 in
set_option maxHeartbeats 4000000 in
theorem ofields_zero (w : World) (A : Option Addr) (m cap : Nat) (hA : A = none → m = 0 ∧ cap = 0) (C : Nat → Cl) (hr : Rd w A (m * 4) (clF C)) (x y : Int) (hx : 0 ≤ x ∧ x ≤ 255) (hy : 0 ≤ y ∧ y ≤ 255) (AR : Option Addr) (nr cr : Nat) (R : Nat → Int) (hR : Rd w AR nr (intF .i64 R)) (AD : Option Addr) (nd cd : Nat) (D : Nat → Int) (hD : Rd w AD nd (intF .i64 D)) (s1 : nr ≤ 60) (s2 : nd ≤ 60) (hn : m = 0) : Calls Try.prog 5 #[.slice A m cap, .int .u8 x, .int .u8 y, .slice AR nr cr, .slice AD nd cd] w fun e w' => e = .returned (.bool true) ∧ Keeps w w' := by
  have s3 : ¬ ((60 : Int) < (nr : Int)) := by omega
  have s4 : ¬ ((60 : Int) < (nd : Int)) := by omega
  subst hn
  have HB := Lib.hid (fun w' (k : Keeps w w') => both_yes A 0 cap hA C 200 (by omega) w' (hr.keep k) (by omega) (newE_zero.2 ⟨fun j h => by omega, by omega⟩))
  clear hr hA hR hD
  unfold stV at HB
  have hz1 := zero_st
  have hz2 := zero_rst
  go_enter Try.func5, Try.ntmps5
  go_wp2_with fail
  have K0 := Touch.refl (fun _ => False) w
  refine Calls.mono (awake_any _) ?_
  rintro e w1 ⟨rfl, kw1⟩
  have Kw1 := Keeps.trans K0 kw1
  have zw1 := kw1.size
  clear K0 kw1
  go_wp2_with fail
  refine Calls.mono (HB.out _ Kw1) ?_
  rintro e wa ⟨ba, bw, bt, A', cap', ra, rw', rfl, hS, hRA, hRW, n1, n2, n3, n4, n5, n6, k1⟩
  have Kwa := Keeps.trans Kw1 k1
  have zwa := k1.size
  clear Kw1
  clear hS hRA hRW k1
  go_wp2_with fail
  go_ret
  exact ⟨rfl, ((Kwa.alloc _).alloc _)⟩

set_option maxRecDepth 100000 in
set_option maxHeartbeats 4000000 in
theorem ofields_walk1 (w : World) (A : Option Addr) (m cap : Nat) (hA : A = none → m = 0 ∧ cap = 0) (C : Nat → Cl) (hr : Rd w A (m * 4) (clF C)) (x y : Int) (hx : 0 ≤ x ∧ x ≤ 255) (hy : 0 ≤ y ∧ y ≤ 255) (AR : Option Addr) (nr cr : Nat) (R : Nat → Int) (hR : Rd w AR nr (intF .i64 R)) (AD : Option Addr) (nd cd : Nat) (D : Nat → Int) (hD : Rd w AD nd (intF .i64 D)) (s1 : nr ≤ 60) (s2 : nd ≤ 60) (hm : 0 < m) (hE : newE C m = 0) (h100 : m ≤ 100) : Calls Try.prog 5 #[.slice A m cap, .int .u8 x, .int .u8 y, .slice AR nr cr, .slice AD nd cd] w fun e w' => e = .returned (.bool true) ∧ Keeps w w' := by
  obtain ⟨x0, x1⟩ := hx
  obtain ⟨y0, y1⟩ := hy
  obtain ⟨hCr, h64⟩ := newE_zero.1 hE
  have s3 : ¬ ((60 : Int) < (nr : Int)) := by omega
  have s4 : ¬ ((60 : Int) < (nd : Int)) := by omega
  have HB := Lib.hid (fun w' (k : Keeps w w') => both_yes A m cap hA C 200 (by omega) w' (hr.keep k) h100 hE)
  have hne : ((m : Int) == 0) = false := by simp; omega
  have hmm := Int.emod_nonneg x (show (m : Int) ≠ 0 by omega)
  have hml := Int.emod_lt_of_pos x (show (0 : Int) < m by omega)
  have hmm2 := Int.emod_nonneg y (show (m : Int) ≠ 0 by omega)
  have hml2 := Int.emod_lt_of_pos y (show (0 : Int) < m by omega)
  obtain ⟨c, hc⟩ : ∃ c : Nat, x % (m : Int) = c := ⟨(x % m).toNat, by omega⟩
  obtain ⟨c2, hc2⟩ : ∃ c : Nat, y % (m : Int) = c := ⟨(y % m).toNat, by omega⟩
  have hcm : c < m := by omega
  have hcm2 : c2 < m := by omega
  have HCok := Lib.hid (fun j hj => rgB_ok (hCr j hj))
  have HE1 := Lib.hid (lays_e hCr hcm (len := 0) (.inr rfl))
  have HE2 := Lib.hid (lays_e hCr hcm2 (len := 0) (.inr rfl))
  have HK1 := Lib.hid (lays_k hCr hcm (len := 0) (.inr rfl))
  have HK2 := Lib.hid (lays_k hCr hcm2 (len := 0) (.inr rfl))
  have HRd := Lib.hid hR
  have HDd := Lib.hid hD
  have hv0 : IntKind.i64.wrap (1 + (c : Int)) = 1 + (c : Int) := IntWalk.i64_in _ ⟨by omega, by omega⟩
  have hv1 : IntKind.i64.wrap (1 + (c2 : Int)) = 1 + (c2 : Int) := IntWalk.i64_in _ ⟨by omega, by omega⟩
  have t0 : x.tmod (m : Int) = (c : Int) := by rw [Int.tmod_eq_emod_of_nonneg x0]; exact hc
  have t1 : y.tmod (m : Int) = (c2 : Int) := by rw [Int.tmod_eq_emod_of_nonneg y0]; exact hc2
  clear hr hA hE hCr hR hD hmm hml hmm2 hml2
  unfold stV at HB
  have hz1 := zero_st
  have hz2 := zero_rst
  have hz3 := zero_hd
  go_enter Try.func5, Try.ntmps5
  go_wp2_with fail
  have K0 := Touch.refl (fun _ => False) w
  refine Calls.mono (awake_any _) ?_
  rintro e w1 ⟨rfl, kw1⟩
  have Kw1 := Keeps.trans K0 kw1
  have zw1 := kw1.size
  clear K0 kw1
  go_wp2_with fail
  refine Calls.mono (HB.out _ Kw1) ?_
  rintro e wa ⟨ba, bw, bt, A', cap', ra, rw', rfl, hS, hRA, hRW, n1, n2, n3, n4, n5, n6, k1⟩
  have Kwa := Keeps.trans Kw1 k1
  have zwa := k1.size
  clear Kw1
  have hbw0 : w.heap.size ≤ bw := by omega
  have hbwl := hS.ar.lt2
  clear hRA hRW k1
  go_wp2_with fail
  refine named_code (fun W2 hW2 => ?_)
  have KW2 : Keeps w W2 := by rw [hW2]; exact ((Kwa.alloc _).alloc _)
  have BW2_S : BL W2 (wa.heap.size) 26 [.pointer (some ⟨ba, 0, none⟩), .pointer (some ⟨bt, 0, none⟩)] := by rw [hW2]; exact (BL.alloc (BL.new1 _ _ _ [.pointer (some ⟨ba, 0, none⟩), .pointer (some ⟨bt, 0, none⟩)] _ (by simp) rfl) _)
  have zW2 : wa.heap.size + 2 ≤ W2.heap.size := by rw [hW2]; simp
  have SW2 := St.keep hS (show Keeps wa W2 by rw [hW2]; exact (((Touch.refl _ _).alloc _).alloc _))
  clear hS Kwa hW2
  have l3 := BW2_S.lt
  have c4 : W2.cell? ⟨wa.heap.size, 0, none⟩ = some (.pointer (some ⟨ba, 0, none⟩)) := BW2_S.c 0 _ rfl
  have c5 : W2.cell? ⟨wa.heap.size, 1, none⟩ = some (.pointer (some ⟨bt, 0, none⟩)) := BW2_S.c 1 _ rfl
  go_quiet (fail)
  go_wp2_with fail
  refine named (fun W6 hW6 => ?_)
  have KW6 : Keeps w W6 := by rw [hW6]; exact (KW2.drewN _)
  have BW6_S : BL W6 (wa.heap.size) 26 [.pointer (some ⟨ba, 0, none⟩), .pointer (some ⟨bt, 0, none⟩)] := by rw [hW6]; exact (BL.drewN _ BW2_S)
  have zW6 : W2.heap.size + 0 ≤ W6.heap.size := by rw [hW6]; simp
  have SW6 := St.keep SW2 (show Keeps W2 W6 by rw [hW6]; exact ((Touch.refl _ _).drewN _))
  clear l3 c4 c5 SW2 BW2_S KW2 hW6
  have l7 := BW6_S.lt
  clear t0 t1 hv0 hv1 hc hc2 HB
  refine Calls.mono (lay_yes ba bw 200 _ bt A' m cap' C _ SW6 1 (1 + c) 0 HE1.out (by have h1 := HK1.out; have h2 := hok2 HCok.out HE1.out; exact thB_true.2 ⟨by omega, by omega, by omega, by omega⟩)) ?_
  rintro e w8 ⟨rfl, Sw8, ow8⟩
  have Kw8 := Keeps.new KW6 ow8 (by have := hbw0; omega)
  have Bw8_S := BL.touch BW6_S ow8 (by show ¬ (wa.heap.size = bw); omega)
  have zw8 := ow8.size
  clear l7 BW6_S KW6 ow8 SW6
  have l9 := Bw8_S.lt
  have c10 : w8.cell? ⟨wa.heap.size, 0, none⟩ = some (.pointer (some ⟨ba, 0, none⟩)) := Bw8_S.c 0 _ rfl
  have c11 : w8.cell? ⟨wa.heap.size, 1, none⟩ = some (.pointer (some ⟨bt, 0, none⟩)) := Bw8_S.c 1 _ rfl
  go_wp2_with fail
  refine Calls.mono (lay_yes ba bw 200 _ bt A' m cap' C _ Sw8 100 (1 + c2) 0 HE2.out (by have h1 := HK2.out; have h2 := hok2 HCok.out HE2.out; exact thB_true.2 ⟨by omega, by omega, by omega, by omega⟩)) ?_
  rintro e w12 ⟨rfl, Sw12, ow12⟩
  have Kw12 := Keeps.new Kw8 ow12 (by have := hbw0; omega)
  have Bw12_S := BL.touch Bw8_S ow12 (by show ¬ (wa.heap.size = bw); omega)
  have zw12 := ow12.size
  clear l9 c10 c11 Bw8_S Kw8 ow12 Sw8
  have l13 := Bw12_S.lt
  have c14 : w12.cell? ⟨wa.heap.size, 0, none⟩ = some (.pointer (some ⟨ba, 0, none⟩)) := Bw12_S.c 0 _ rfl
  have c15 : w12.cell? ⟨wa.heap.size, 1, none⟩ = some (.pointer (some ⟨bt, 0, none⟩)) := Bw12_S.c 1 _ rfl
  have hFF := flds_facts HCok.out h64 HE1.out HK1.out (hok2 HCok.out HE2.out) (layW (1 + c2) (C (1 + (c2 : Int) - 1).toNat).fin)
  generalize layF (layF (fun _ => 0) 1 (shW C m (1 + (c : Int)) 0) (layW (1 + c) (C (1 + (c : Int) - 1).toNat).fin) 0) 100 (shW C m (1 + (c2 : Int)) 0) (layW (1 + c2) (C (1 + (c2 : Int) - 1).toNat).fin) 0 = f at *
  generalize shR C m (1 + (c : Int)) 0 = r at *
  generalize shD C m (1 + (c : Int)) 0 = d at *
  have HFF := Lib.hid hFF
  obtain ⟨r0, d0, hrd⟩ := hFF.bd
  clear hFF HE1 HE2 HK1 HK2 HCok
  obtain ⟨⟨hcl, hag, hfw, hmk, hfi, hdn⟩, hhd, hobj⟩ := HFF.out.obj
  have HOB := Lib.hid hobj
  have HHD := Lib.hid hhd
  clear hobj hhd
  go_wp2_with fail
  refine Calls.mono (oshape_any ba bw 200 f bt A' m cap' C _ Sw12 1) ?_
  rintro e w16 ⟨rfl, kw16⟩
  have Kw16 := Keeps.trans Kw12 kw16
  have Bw16_S := BL.keep Bw12_S kw16
  have zw16 := kw16.size
  have Sw16 := St.keep Sw12 kw16
  clear l13 c14 c15 Sw12 Bw12_S Kw12 kw16
  have l17 := Bw16_S.lt
  have c18 : w16.cell? ⟨wa.heap.size, 0, none⟩ = some (.pointer (some ⟨ba, 0, none⟩)) := Bw16_S.c 0 _ rfl
  have c19 : w16.cell? ⟨wa.heap.size, 1, none⟩ = some (.pointer (some ⟨bt, 0, none⟩)) := Bw16_S.c 1 _ rfl
  rw [HOB.out]
  go_wp2_with fail
  refine Calls.mono (words_yes ba bw 200 f _ Sw16.ar 100 40 (by omega) (by omega) (by omega)) ?_
  rintro e wx ⟨v1, rfl, hO1, k1⟩
  have Kwx := Keeps.trans Kw16 k1
  have Bwx_S := BL.keep Bw16_S k1
  have zwx := k1.size
  have Swx := St.keep Sw16 k1
  clear l17 c18 c19 Sw16 Bw16_S Kw16
  have l20 := Bwx_S.lt
  have c21 : wx.cell? ⟨wa.heap.size, 0, none⟩ = some (.pointer (some ⟨ba, 0, none⟩)) := Bwx_S.c 0 _ rfl
  have c22 : wx.cell? ⟨wa.heap.size, 1, none⟩ = some (.pointer (some ⟨bt, 0, none⟩)) := Bwx_S.c 1 _ rfl
  have HO1 := Lib.hid hO1
  clear hO1 k1
  go_wp2_with fail
  refine Calls.mono (ohead_any ba bw 200 f bt A' m cap' C _ Swx 1) ?_
  rintro e wy ⟨rfl, k2⟩
  have Kwy := Keeps.trans Kwx k2
  have Bwy_S := BL.keep Bwx_S k2
  have zwy := k2.size
  have Swy := St.keep Swx k2
  clear l20 c21 c22 Swx Bwx_S Kwx
  have l23 := Bwy_S.lt
  have c24 : wy.cell? ⟨wa.heap.size, 0, none⟩ = some (.pointer (some ⟨ba, 0, none⟩)) := Bwy_S.c 0 _ rfl
  have c25 : wy.cell? ⟨wa.heap.size, 1, none⟩ = some (.pointer (some ⟨bt, 0, none⟩)) := Bwy_S.c 1 _ rfl
  have HO2 := Lib.hid (HO1.out.keep k2)
  clear HO1 k2
  rw [HOB.out]
  unfold hdV
  dsimp only
  go_wp2_with fail
  refine named_code (fun W26 hW26 => ?_)
  have KW26 : Keeps w W26 := by rw [hW26]; exact (Kwy.alloc _)
  have BW26_S : BL W26 (wa.heap.size) 26 [.pointer (some ⟨ba, 0, none⟩), .pointer (some ⟨bt, 0, none⟩)] := by rw [hW26]; exact (BL.alloc Bwy_S _)
  have BW26_H : BL W26 (wy.heap.size) 33 [.int .i64 hcl, .int .i64 hag, .int .i64 hfw, .bool hmk, .bool hfi, .bool hdn] := by rw [hW26]; exact (BL.new1 _ _ _ [.int .i64 hcl, .int .i64 hag, .int .i64 hfw, .bool hmk, .bool hfi, .bool hdn] _ (by simp) rfl)
  have kW26 : Keeps wy W26 := by rw [hW26]; exact ((Touch.refl _ _).alloc _)
  have zW26 : wy.heap.size + 1 ≤ W26.heap.size := by rw [hW26]; simp
  have SW26 := St.keep Swy (show Keeps wy W26 by rw [hW26]; exact ((Touch.refl _ _).alloc _))
  clear l23 c24 c25 Swy Bwy_S Kwy hW26
  have l27 := BW26_S.lt
  have l28 := BW26_H.lt
  have HO3 := Lib.hid (HO2.out.keep kW26)
  have hl3 := HO3.out.lt
  have HLo := Lib.hid hl3
  clear HO2 kW26 hl3
  have zn : nr ≤ 60 := s1
  have zd : nd ≤ 60 := s2
  have SF : St W26 ba bw 200 (fldF f r d 0 0 R D) bt A' m cap' C := by rw [fldF_zero]; exact SW26
  clear SW26
  go_loopw [105] (fun i wr => ∃ q : Nat, q ≤ nr ∧ i = .int .i64 q ∧ St wr ba bw 200 (fldF f r d q 0 R D) bt A' m cap' C ∧ Only bw W26 wr) (fun i _ => nr - (intOf i).toNat)
  case atStart => exact ⟨0, by omega, rfl, SF, Only.refl _ _⟩
  case round =>
    obtain ⟨wr105, rfl⟩ : ∃ wo : World, wo = wr := ⟨_, rfl⟩
    obtain ⟨q105, hq, rfl, SQ105, or105⟩ := hrel
    have Kwr105 := Keeps.new KW26 or105 (by omega)
    have Bwr105_S := BL.touch BW26_S or105 (by show ¬ (wa.heap.size = bw); omega)
    have Bwr105_H := BL.touch BW26_H or105 (by show ¬ (wy.heap.size = bw); omega)
    have zwr105 := or105.size
    clear l27 l28 BW26_S BW26_H
    by_cases hlt : q105 < nr
    ·
      have l29 := Bwr105_S.lt
      have l30 := Bwr105_H.lt
      obtain ⟨rb, ro, rfl, cR⟩ := (HRd.out.keep Kwr105).one hlt
      have cR2 : wr105.cell? ⟨rb, ro + q105, none⟩ = some (.int .i64 (R q105)) := cR
      clear cR
      have hlt' : (q105 : Int) < (nr : Int) := by omega
      have hq0 : (0 : Int) ≤ (q105 : Int) := by omega
      by_cases hin : (q105 : Int) < r
      ·
        have SD : St wr105.drew ba bw 200 (fldF f r d q105 0 R D) bt A' m cap' C := St.keep SQ105 ((Touch.refl _ _).drew)
        have HC := Lib.hid (fld_setref_yes HFF.out SD hin)
        clear SD
        have hrb : rb ≠ bw := fun e => by have := (HRd.out.one hlt); obtain ⟨b', o', e', c'⟩ := this; cases e'; have := block_lt_of_cell c'; have : rb < w.heap.size := this; omega
        go_wp2_with fail
        refine wp_region_noPanic ?_
        refine wp_region_held_drew (S := (fun w' => BL w' (wa.heap.size) 26 [.pointer (some ⟨ba, 0, none⟩), .pointer (some ⟨bt, 0, none⟩)] ∧ w'.cell? ⟨rb, ro + q105, none⟩ = some (.int .i64 (R q105)))) (by kernel_rfl) ⟨Bwr105_S.drew, cR2⟩ (fun hHeld => ?_)
        refine' wpAnyH_take (i := 0) ?hi0_1 ?hs0_1 ?hf0_1 ?hr0_1 ?hQ0_1 ?hy0_1 (by assumption) ?rest0_1
        case hi0_1 => simp only [List.getElem?_toArray, List.getElem?_cons_zero] <;> rfl
        case hs0_1 => kernel_rfl
        case hf0_1 => kernel_rfl
        case hr0_1 => kernel_rfl
        case hQ0_1 => exact fun _ _ _ h => h
        case hy0_1 => exact Or.inl ⟨by rfl, fun w hSw => by obtain ⟨hS1, hS2⟩ := hSw; have q0 := hS1.c 0 (.pointer (some ⟨ba, 0, none⟩)) rfl; have q1 := hS1.c 1 (.pointer (some ⟨bt, 0, none⟩)) rfl; clear hS1; go_simp <;> (try with_reducible rfl)⟩
        simp only [Act.put, List.setIfInBounds_toArray, List.set_cons_zero, List.set_cons_succ]
        refine' wpAnyH_take (i := 1) ?hi1_1 ?hs1_1 ?hf1_1 ?hr1_1 ?hQ1_1 ?hy1_1 (by assumption) ?rest1_1
        case hi1_1 => simp only [List.getElem?_toArray, List.getElem?_cons_succ, List.getElem?_cons_zero] <;> rfl
        case hs1_1 => kernel_rfl
        case hf1_1 => kernel_rfl
        case hr1_1 => kernel_rfl
        case hQ1_1 => exact fun _ _ _ h => h
        case hy1_1 => exact Or.inl ⟨by rfl, fun w hSw => by obtain ⟨hS1, hS2⟩ := hSw; have q0 := hS1.c 0 (.pointer (some ⟨ba, 0, none⟩)) rfl; have q1 := hS1.c 1 (.pointer (some ⟨bt, 0, none⟩)) rfl; clear hS1; go_simp <;> (try with_reducible rfl)⟩
        simp only [Act.put, List.setIfInBounds_toArray, List.set_cons_zero, List.set_cons_succ]
        refine' wpAnyH_take (i := 2) ?hi2_1 ?hs2_1 ?hf2_1 ?hr2_1 ?hQ2_1 ?hy2_1 (by assumption) ?rest2_1
        case hi2_1 => simp only [List.getElem?_toArray, List.getElem?_cons_succ, List.getElem?_cons_zero] <;> rfl
        case hs2_1 => kernel_rfl
        case hf2_1 => kernel_rfl
        case hr2_1 => kernel_rfl
        case hQ2_1 => exact fun _ _ _ h => h
        case hy2_1 => exact Or.inl ⟨by rfl, fun w hSw => by obtain ⟨hS1, hS2⟩ := hSw; have q0 := hS1.c 0 (.pointer (some ⟨ba, 0, none⟩)) rfl; have q1 := hS1.c 1 (.pointer (some ⟨bt, 0, none⟩)) rfl; clear hS1; go_simp <;> (try with_reducible rfl)⟩
        simp only [Act.put, List.setIfInBounds_toArray, List.set_cons_zero, List.set_cons_succ]
        refine' wpAnyH_take (i := 3) ?hi3_1 ?hs3_1 ?hf3_1 ?hr3_1 ?hQ3_1 ?hy3_1 (by assumption) ?rest3_1
        case hi3_1 => simp only [List.getElem?_toArray, List.getElem?_cons_succ, List.getElem?_cons_zero] <;> rfl
        case hs3_1 => kernel_rfl
        case hf3_1 => kernel_rfl
        case hr3_1 => kernel_rfl
        case hQ3_1 => exact fun _ _ _ h => h
        case hy3_1 => exact Or.inl ⟨by rfl, fun w hSw => by obtain ⟨hS1, hS2⟩ := hSw; have q0 := hS1.c 0 (.pointer (some ⟨ba, 0, none⟩)) rfl; have q1 := hS1.c 1 (.pointer (some ⟨bt, 0, none⟩)) rfl; clear hS1; go_simp <;> (try with_reducible rfl)⟩
        simp only [Act.put, List.setIfInBounds_toArray, List.set_cons_zero, List.set_cons_succ]
        refine' wpAnyH_take (i := 4) ?hi4_1 ?hs4_1 ?hf4_1 ?hr4_1 ?hQ4_1 ?hy4_1 (by assumption) ?rest4_1
        case hi4_1 => simp only [List.getElem?_toArray, List.getElem?_cons_succ, List.getElem?_cons_zero] <;> rfl
        case hs4_1 => kernel_rfl
        case hf4_1 => kernel_rfl
        case hr4_1 => kernel_rfl
        case hQ4_1 => exact fun _ _ _ h => h
        case hy4_1 => exact Or.inl ⟨by rfl, fun w hSw => by obtain ⟨hS1, hS2⟩ := hSw; have q0 := hS1.c 0 (.pointer (some ⟨ba, 0, none⟩)) rfl; have q1 := hS1.c 1 (.pointer (some ⟨bt, 0, none⟩)) rfl; clear hS1; go_simp <;> (try with_reducible rfl)⟩
        simp only [Act.put, List.setIfInBounds_toArray, List.set_cons_zero, List.set_cons_succ]
        refine' wpAnyH_take (i := 5) ?hi5_1 ?hs5_1 ?hf5_1 ?hr5_1 ?hQ5_1 ?hy5_1 (by assumption) ?rest5_1
        case hi5_1 => simp only [List.getElem?_toArray, List.getElem?_cons_succ, List.getElem?_cons_zero] <;> rfl
        case hs5_1 => kernel_rfl
        case hf5_1 => kernel_rfl
        case hr5_1 => kernel_rfl
        case hQ5_1 => exact fun _ _ _ h => h
        case hy5_1 => exact Or.inl ⟨by rfl, fun w hSw => by obtain ⟨hS1, hS2⟩ := hSw; have q0 := hS1.c 0 (.pointer (some ⟨ba, 0, none⟩)) rfl; have q1 := hS1.c 1 (.pointer (some ⟨bt, 0, none⟩)) rfl; clear hS1; go_simp <;> (try with_reducible rfl)⟩
        simp only [Act.put, List.setIfInBounds_toArray, List.set_cons_zero, List.set_cons_succ]
        refine' wpAnyH_take (i := 8) ?hi8_1 ?hs8_1 ?hf8_1 ?hr8_1 ?hQ8_1 ?hy8_1 (by assumption) ?rest8_1
        case hi8_1 => simp only [List.getElem?_toArray, List.getElem?_cons_succ, List.getElem?_cons_zero] <;> rfl
        case hs8_1 => kernel_rfl
        case hf8_1 => kernel_rfl
        case hr8_1 => kernel_rfl
        case hQ8_1 => exact fun _ _ _ h => h
        case hy8_1 => exact Or.inl ⟨by rfl, fun w hSw => by obtain ⟨hS1, hS2⟩ := hSw; have q0 := hS1.c 0 (.pointer (some ⟨ba, 0, none⟩)) rfl; have q1 := hS1.c 1 (.pointer (some ⟨bt, 0, none⟩)) rfl; clear hS1; go_simp <;> (try with_reducible rfl)⟩
        simp only [Act.put, List.setIfInBounds_toArray, List.set_cons_zero, List.set_cons_succ]
        refine' wpAnyH_take (i := 9) ?hi9_1 ?hs9_1 ?hf9_1 ?hr9_1 ?hQ9_1 ?hy9_1 (by assumption) ?rest9_1
        case hi9_1 => simp only [List.getElem?_toArray, List.getElem?_cons_succ, List.getElem?_cons_zero] <;> rfl
        case hs9_1 => kernel_rfl
        case hf9_1 => kernel_rfl
        case hr9_1 => kernel_rfl
        case hQ9_1 => exact fun _ _ _ h => h
        case hy9_1 => exact Or.inl ⟨by rfl, fun w hSw => by obtain ⟨hS1, hS2⟩ := hSw; have q0 := hS1.c 0 (.pointer (some ⟨ba, 0, none⟩)) rfl; have q1 := hS1.c 1 (.pointer (some ⟨bt, 0, none⟩)) rfl; clear hS1; go_simp <;> (try with_reducible rfl)⟩
        simp only [Act.put, List.setIfInBounds_toArray, List.set_cons_zero, List.set_cons_succ]
        refine' wpAnyH_take (i := 10) ?hi10_1 ?hs10_1 ?hf10_1 ?hr10_1 ?hQ10_1 ?hy10_1 (by assumption) ?rest10_1
        case hi10_1 => simp only [List.getElem?_toArray, List.getElem?_cons_succ, List.getElem?_cons_zero] <;> rfl
        case hs10_1 => kernel_rfl
        case hf10_1 => kernel_rfl
        case hr10_1 => kernel_rfl
        case hQ10_1 => exact fun _ _ _ h => h
        case hy10_1 => exact Or.inl ⟨by rfl, fun w hSw => by obtain ⟨hS1, hS2⟩ := hSw; have q0 := hS1.c 0 (.pointer (some ⟨ba, 0, none⟩)) rfl; have q1 := hS1.c 1 (.pointer (some ⟨bt, 0, none⟩)) rfl; clear hS1; go_simp <;> (try with_reducible rfl)⟩
        simp only [Act.put, List.setIfInBounds_toArray, List.set_cons_zero, List.set_cons_succ]
        refine wpAnyH_ready (rs := [6]) (by kernel_rfl) (by simp) ?_
        refine AllReadyH.cons rfl (fun K hK => ?_) AllReadyH.nil
        go_simp
        ((with_reducible refine HC.out.mono ?_); rintro e w' ⟨rfl, s9, o9⟩)
        go_wp2_with fail
        refine hK.out _ _ ⟨hHeld.1.touch o9 (by show ¬ (wa.heap.size = bw); omega), (World.cell?_of_block (o9.block rb (block_lt_of_cell hHeld.2) hrb)).trans hHeld.2⟩ (fun hHeld => ?_)
        clear hK K
        refine' wpAnyH_take (i := 7) ?hi7_1 ?hs7_1 ?hf7_1 ?hr7_1 ?hQ7_1 ?hy7_1 (by assumption) ?rest7_1
        case hi7_1 => simp only [List.getElem?_toArray, List.getElem?_cons_succ, List.getElem?_cons_zero] <;> rfl
        case hs7_1 => kernel_rfl
        case hf7_1 => kernel_rfl
        case hr7_1 => kernel_rfl
        case hQ7_1 => exact fun _ _ _ h => h
        case hy7_1 => exact Or.inl ⟨by rfl, fun w hSw => by go_simp <;> (try with_reducible rfl)⟩
        simp only [Act.put, List.setIfInBounds_toArray, List.set_cons_zero, List.set_cons_succ]
        refine' wpAnyH_take (i := 11) ?hi11_1 ?hs11_1 ?hf11_1 ?hr11_1 ?hQ11_1 ?hy11_1 (by assumption) ?rest11_1
        case hi11_1 => simp only [List.getElem?_toArray, List.getElem?_cons_succ, List.getElem?_cons_zero] <;> rfl
        case hs11_1 => kernel_rfl
        case hf11_1 => kernel_rfl
        case hr11_1 => kernel_rfl
        case hQ11_1 => exact fun _ _ _ h => h
        case hy11_1 => exact Or.inl ⟨by rfl, fun w hSw => by go_simp <;> (try with_reducible rfl)⟩
        simp only [Act.put, List.setIfInBounds_toArray, List.set_cons_zero, List.set_cons_succ]
        refine wpAnyH_done (by kernel_rfl) ?_ _
        refine NoPanic.normal ?_
        go_wp2_with fail
        go_roundw
        case rel => exact ⟨q105 + 1, by omega, by go_num, s9, (or105.trans_ (Touch.drew (Only.refl bw _))).trans_ o9⟩
        case measure => simp [intOf]; omega
      ·
        have SD : St wr105.drew ba bw 200 (fldF f r d q105 0 R D) bt A' m cap' C := St.keep SQ105 ((Touch.refl _ _).drew)
        have hge : r ≤ (q105 : Int) := by omega
        have HC := Lib.hid (fld_setref_no HFF.out SD hge)
        clear SD hin
        have hrb : rb ≠ bw := fun e => by have := (HRd.out.one hlt); obtain ⟨b', o', e', c'⟩ := this; cases e'; have := block_lt_of_cell c'; have : rb < w.heap.size := this; omega
        go_wp2_with fail
        refine wp_region_noPanic ?_
        refine wp_region_held_drew (S := (fun w' => BL w' (wa.heap.size) 26 [.pointer (some ⟨ba, 0, none⟩), .pointer (some ⟨bt, 0, none⟩)] ∧ w'.cell? ⟨rb, ro + q105, none⟩ = some (.int .i64 (R q105)))) (by kernel_rfl) ⟨Bwr105_S.drew, cR2⟩ (fun hHeld => ?_)
        refine' wpAnyH_take (i := 0) ?hi0_2 ?hs0_2 ?hf0_2 ?hr0_2 ?hQ0_2 ?hy0_2 (by assumption) ?rest0_2
        case hi0_2 => simp only [List.getElem?_toArray, List.getElem?_cons_zero] <;> rfl
        case hs0_2 => kernel_rfl
        case hf0_2 => kernel_rfl
        case hr0_2 => kernel_rfl
        case hQ0_2 => exact fun _ _ _ h => h
        case hy0_2 => exact Or.inl ⟨by rfl, fun w hSw => by obtain ⟨hS1, hS2⟩ := hSw; have q0 := hS1.c 0 (.pointer (some ⟨ba, 0, none⟩)) rfl; have q1 := hS1.c 1 (.pointer (some ⟨bt, 0, none⟩)) rfl; clear hS1; go_simp <;> (try with_reducible rfl)⟩
        simp only [Act.put, List.setIfInBounds_toArray, List.set_cons_zero, List.set_cons_succ]
        refine' wpAnyH_take (i := 1) ?hi1_2 ?hs1_2 ?hf1_2 ?hr1_2 ?hQ1_2 ?hy1_2 (by assumption) ?rest1_2
        case hi1_2 => simp only [List.getElem?_toArray, List.getElem?_cons_succ, List.getElem?_cons_zero] <;> rfl
        case hs1_2 => kernel_rfl
        case hf1_2 => kernel_rfl
        case hr1_2 => kernel_rfl
        case hQ1_2 => exact fun _ _ _ h => h
        case hy1_2 => exact Or.inl ⟨by rfl, fun w hSw => by obtain ⟨hS1, hS2⟩ := hSw; have q0 := hS1.c 0 (.pointer (some ⟨ba, 0, none⟩)) rfl; have q1 := hS1.c 1 (.pointer (some ⟨bt, 0, none⟩)) rfl; clear hS1; go_simp <;> (try with_reducible rfl)⟩
        simp only [Act.put, List.setIfInBounds_toArray, List.set_cons_zero, List.set_cons_succ]
        refine' wpAnyH_take (i := 2) ?hi2_2 ?hs2_2 ?hf2_2 ?hr2_2 ?hQ2_2 ?hy2_2 (by assumption) ?rest2_2
        case hi2_2 => simp only [List.getElem?_toArray, List.getElem?_cons_succ, List.getElem?_cons_zero] <;> rfl
        case hs2_2 => kernel_rfl
        case hf2_2 => kernel_rfl
        case hr2_2 => kernel_rfl
        case hQ2_2 => exact fun _ _ _ h => h
        case hy2_2 => exact Or.inl ⟨by rfl, fun w hSw => by obtain ⟨hS1, hS2⟩ := hSw; have q0 := hS1.c 0 (.pointer (some ⟨ba, 0, none⟩)) rfl; have q1 := hS1.c 1 (.pointer (some ⟨bt, 0, none⟩)) rfl; clear hS1; go_simp <;> (try with_reducible rfl)⟩
        simp only [Act.put, List.setIfInBounds_toArray, List.set_cons_zero, List.set_cons_succ]
        refine' wpAnyH_take (i := 3) ?hi3_2 ?hs3_2 ?hf3_2 ?hr3_2 ?hQ3_2 ?hy3_2 (by assumption) ?rest3_2
        case hi3_2 => simp only [List.getElem?_toArray, List.getElem?_cons_succ, List.getElem?_cons_zero] <;> rfl
        case hs3_2 => kernel_rfl
        case hf3_2 => kernel_rfl
        case hr3_2 => kernel_rfl
        case hQ3_2 => exact fun _ _ _ h => h
        case hy3_2 => exact Or.inl ⟨by rfl, fun w hSw => by obtain ⟨hS1, hS2⟩ := hSw; have q0 := hS1.c 0 (.pointer (some ⟨ba, 0, none⟩)) rfl; have q1 := hS1.c 1 (.pointer (some ⟨bt, 0, none⟩)) rfl; clear hS1; go_simp <;> (try with_reducible rfl)⟩
        simp only [Act.put, List.setIfInBounds_toArray, List.set_cons_zero, List.set_cons_succ]
        refine' wpAnyH_take (i := 4) ?hi4_2 ?hs4_2 ?hf4_2 ?hr4_2 ?hQ4_2 ?hy4_2 (by assumption) ?rest4_2
        case hi4_2 => simp only [List.getElem?_toArray, List.getElem?_cons_succ, List.getElem?_cons_zero] <;> rfl
        case hs4_2 => kernel_rfl
        case hf4_2 => kernel_rfl
        case hr4_2 => kernel_rfl
        case hQ4_2 => exact fun _ _ _ h => h
        case hy4_2 => exact Or.inl ⟨by rfl, fun w hSw => by obtain ⟨hS1, hS2⟩ := hSw; have q0 := hS1.c 0 (.pointer (some ⟨ba, 0, none⟩)) rfl; have q1 := hS1.c 1 (.pointer (some ⟨bt, 0, none⟩)) rfl; clear hS1; go_simp <;> (try with_reducible rfl)⟩
        simp only [Act.put, List.setIfInBounds_toArray, List.set_cons_zero, List.set_cons_succ]
        refine' wpAnyH_take (i := 5) ?hi5_2 ?hs5_2 ?hf5_2 ?hr5_2 ?hQ5_2 ?hy5_2 (by assumption) ?rest5_2
        case hi5_2 => simp only [List.getElem?_toArray, List.getElem?_cons_succ, List.getElem?_cons_zero] <;> rfl
        case hs5_2 => kernel_rfl
        case hf5_2 => kernel_rfl
        case hr5_2 => kernel_rfl
        case hQ5_2 => exact fun _ _ _ h => h
        case hy5_2 => exact Or.inl ⟨by rfl, fun w hSw => by obtain ⟨hS1, hS2⟩ := hSw; have q0 := hS1.c 0 (.pointer (some ⟨ba, 0, none⟩)) rfl; have q1 := hS1.c 1 (.pointer (some ⟨bt, 0, none⟩)) rfl; clear hS1; go_simp <;> (try with_reducible rfl)⟩
        simp only [Act.put, List.setIfInBounds_toArray, List.set_cons_zero, List.set_cons_succ]
        refine' wpAnyH_take (i := 8) ?hi8_2 ?hs8_2 ?hf8_2 ?hr8_2 ?hQ8_2 ?hy8_2 (by assumption) ?rest8_2
        case hi8_2 => simp only [List.getElem?_toArray, List.getElem?_cons_succ, List.getElem?_cons_zero] <;> rfl
        case hs8_2 => kernel_rfl
        case hf8_2 => kernel_rfl
        case hr8_2 => kernel_rfl
        case hQ8_2 => exact fun _ _ _ h => h
        case hy8_2 => exact Or.inl ⟨by rfl, fun w hSw => by obtain ⟨hS1, hS2⟩ := hSw; have q0 := hS1.c 0 (.pointer (some ⟨ba, 0, none⟩)) rfl; have q1 := hS1.c 1 (.pointer (some ⟨bt, 0, none⟩)) rfl; clear hS1; go_simp <;> (try with_reducible rfl)⟩
        simp only [Act.put, List.setIfInBounds_toArray, List.set_cons_zero, List.set_cons_succ]
        refine' wpAnyH_take (i := 9) ?hi9_2 ?hs9_2 ?hf9_2 ?hr9_2 ?hQ9_2 ?hy9_2 (by assumption) ?rest9_2
        case hi9_2 => simp only [List.getElem?_toArray, List.getElem?_cons_succ, List.getElem?_cons_zero] <;> rfl
        case hs9_2 => kernel_rfl
        case hf9_2 => kernel_rfl
        case hr9_2 => kernel_rfl
        case hQ9_2 => exact fun _ _ _ h => h
        case hy9_2 => exact Or.inl ⟨by rfl, fun w hSw => by obtain ⟨hS1, hS2⟩ := hSw; have q0 := hS1.c 0 (.pointer (some ⟨ba, 0, none⟩)) rfl; have q1 := hS1.c 1 (.pointer (some ⟨bt, 0, none⟩)) rfl; clear hS1; go_simp <;> (try with_reducible rfl)⟩
        simp only [Act.put, List.setIfInBounds_toArray, List.set_cons_zero, List.set_cons_succ]
        refine' wpAnyH_take (i := 10) ?hi10_2 ?hs10_2 ?hf10_2 ?hr10_2 ?hQ10_2 ?hy10_2 (by assumption) ?rest10_2
        case hi10_2 => simp only [List.getElem?_toArray, List.getElem?_cons_succ, List.getElem?_cons_zero] <;> rfl
        case hs10_2 => kernel_rfl
        case hf10_2 => kernel_rfl
        case hr10_2 => kernel_rfl
        case hQ10_2 => exact fun _ _ _ h => h
        case hy10_2 => exact Or.inl ⟨by rfl, fun w hSw => by obtain ⟨hS1, hS2⟩ := hSw; have q0 := hS1.c 0 (.pointer (some ⟨ba, 0, none⟩)) rfl; have q1 := hS1.c 1 (.pointer (some ⟨bt, 0, none⟩)) rfl; clear hS1; go_simp <;> (try with_reducible rfl)⟩
        simp only [Act.put, List.setIfInBounds_toArray, List.set_cons_zero, List.set_cons_succ]
        refine wpAnyH_ready (rs := [6]) (by kernel_rfl) (by simp) ?_
        refine AllReadyH.cons rfl (fun K hK => ?_) AllReadyH.nil
        go_simp
        ((with_reducible refine HC.out.mono ?_); rintro e w' ⟨rfl, k9⟩)
        go_wp2_with fail
        refine hK.out _ _ ⟨hHeld.1.keep k9, (World.cell?_of_block (k9.block rb (block_lt_of_cell hHeld.2) (fun h => h))).trans hHeld.2⟩ (fun hHeld => ?_)
        clear hK K
        refine' wpAnyH_take (i := 7) ?hi7_2 ?hs7_2 ?hf7_2 ?hr7_2 ?hQ7_2 ?hy7_2 (by assumption) ?rest7_2
        case hi7_2 => simp only [List.getElem?_toArray, List.getElem?_cons_succ, List.getElem?_cons_zero] <;> rfl
        case hs7_2 => kernel_rfl
        case hf7_2 => kernel_rfl
        case hr7_2 => kernel_rfl
        case hQ7_2 => exact fun _ _ _ h => h
        case hy7_2 => exact Or.inl ⟨by rfl, fun w hSw => by go_simp <;> (try with_reducible rfl)⟩
        simp only [Act.put, List.setIfInBounds_toArray, List.set_cons_zero, List.set_cons_succ]
        refine' wpAnyH_take (i := 11) ?hi11_2 ?hs11_2 ?hf11_2 ?hr11_2 ?hQ11_2 ?hy11_2 (by assumption) ?rest11_2
        case hi11_2 => simp only [List.getElem?_toArray, List.getElem?_cons_succ, List.getElem?_cons_zero] <;> rfl
        case hs11_2 => kernel_rfl
        case hf11_2 => kernel_rfl
        case hr11_2 => kernel_rfl
        case hQ11_2 => exact fun _ _ _ h => h
        case hy11_2 => exact Or.inl ⟨by rfl, fun w hSw => by go_simp <;> (try with_reducible rfl)⟩
        simp only [Act.put, List.setIfInBounds_toArray, List.set_cons_zero, List.set_cons_succ]
        refine wpAnyH_done (by kernel_rfl) ?_ _
        refine NoPanic.normal ?_
        go_wp2_with fail
        go_roundw
        case rel => exact ⟨q105 + 1, by omega, by go_num, by rw [fld_ref_past hge]; exact St.keep SQ105 (Keeps.trans (Touch.drew (Touch.refl _ _)) k9), (or105.trans_ (Touch.drew (Only.refl bw _))).keep k9⟩
        case measure => simp [intOf]; omega
    ·
      have HOL105 := Lib.hid (HO3.out.touch or105 (fun k e h => by have := (HLo.out k e).1; have h2 : k = bw := h; omega))
      obtain rfl : nr = q105 := by omega
      clear hlt hq or105
      have l31 := Bwr105_S.lt
      have l32 := Bwr105_H.lt
      go_wp2_with fail
      go_loopw [123] (fun i wr => ∃ q : Nat, q ≤ nd ∧ i = .int .i64 q ∧ St wr ba bw 200 (fldF f r d nr q R D) bt A' m cap' C ∧ Only bw wr105 wr) (fun i _ => nd - (intOf i).toNat)
      case atStart => exact ⟨0, by omega, rfl, SQ105, Only.refl _ _⟩
      case round =>
        obtain ⟨wr123, rfl⟩ : ∃ wo : World, wo = wr := ⟨_, rfl⟩
        obtain ⟨q123, hq, rfl, SQ123, or123⟩ := hrel
        have Kwr123 := Keeps.new Kwr105 or123 (by omega)
        have Bwr123_S := BL.touch Bwr105_S or123 (by show ¬ (wa.heap.size = bw); omega)
        have Bwr123_H := BL.touch Bwr105_H or123 (by show ¬ (wy.heap.size = bw); omega)
        have zwr123 := or123.size
        clear l31 l32 Bwr105_S Bwr105_H
        by_cases hlt : q123 < nd
        ·
          have l33 := Bwr123_S.lt
          have l34 := Bwr123_H.lt
          obtain ⟨rb, ro, rfl, cR⟩ := (HDd.out.keep Kwr123).one hlt
          have cR2 : wr123.cell? ⟨rb, ro + q123, none⟩ = some (.int .i64 (D q123)) := cR
          clear cR
          have hlt' : (q123 : Int) < (nd : Int) := by omega
          have hq0 : (0 : Int) ≤ (q123 : Int) := by omega
          by_cases hin : (q123 : Int) < d
          ·
            have SD : St wr123.drew ba bw 200 (fldF f r d nr q123 R D) bt A' m cap' C := St.keep SQ123 ((Touch.refl _ _).drew)
            have HC := Lib.hid (fld_setnum_yes HFF.out SD hin)
            clear SD
            have hrb : rb ≠ bw := fun e => by have := (HDd.out.one hlt); obtain ⟨b', o', e', c'⟩ := this; cases e'; have := block_lt_of_cell c'; have : rb < w.heap.size := this; omega
            go_wp2_with fail
            refine wp_region_noPanic ?_
            refine wp_region_held_drew (S := (fun w' => BL w' (wa.heap.size) 26 [.pointer (some ⟨ba, 0, none⟩), .pointer (some ⟨bt, 0, none⟩)] ∧ w'.cell? ⟨rb, ro + q123, none⟩ = some (.int .i64 (D q123)))) (by kernel_rfl) ⟨Bwr123_S.drew, cR2⟩ (fun hHeld => ?_)
            refine' wpAnyH_take (i := 0) ?hi0_3 ?hs0_3 ?hf0_3 ?hr0_3 ?hQ0_3 ?hy0_3 (by assumption) ?rest0_3
            case hi0_3 => simp only [List.getElem?_toArray, List.getElem?_cons_zero] <;> rfl
            case hs0_3 => kernel_rfl
            case hf0_3 => kernel_rfl
            case hr0_3 => kernel_rfl
            case hQ0_3 => exact fun _ _ _ h => h
            case hy0_3 => exact Or.inl ⟨by rfl, fun w hSw => by obtain ⟨hS1, hS2⟩ := hSw; have q0 := hS1.c 0 (.pointer (some ⟨ba, 0, none⟩)) rfl; have q1 := hS1.c 1 (.pointer (some ⟨bt, 0, none⟩)) rfl; clear hS1; go_simp <;> (try with_reducible rfl)⟩
            simp only [Act.put, List.setIfInBounds_toArray, List.set_cons_zero, List.set_cons_succ]
            refine' wpAnyH_take (i := 1) ?hi1_3 ?hs1_3 ?hf1_3 ?hr1_3 ?hQ1_3 ?hy1_3 (by assumption) ?rest1_3
            case hi1_3 => simp only [List.getElem?_toArray, List.getElem?_cons_succ, List.getElem?_cons_zero] <;> rfl
            case hs1_3 => kernel_rfl
            case hf1_3 => kernel_rfl
            case hr1_3 => kernel_rfl
            case hQ1_3 => exact fun _ _ _ h => h
            case hy1_3 => exact Or.inl ⟨by rfl, fun w hSw => by obtain ⟨hS1, hS2⟩ := hSw; have q0 := hS1.c 0 (.pointer (some ⟨ba, 0, none⟩)) rfl; have q1 := hS1.c 1 (.pointer (some ⟨bt, 0, none⟩)) rfl; clear hS1; go_simp <;> (try with_reducible rfl)⟩
            simp only [Act.put, List.setIfInBounds_toArray, List.set_cons_zero, List.set_cons_succ]
            refine' wpAnyH_take (i := 2) ?hi2_3 ?hs2_3 ?hf2_3 ?hr2_3 ?hQ2_3 ?hy2_3 (by assumption) ?rest2_3
            case hi2_3 => simp only [List.getElem?_toArray, List.getElem?_cons_succ, List.getElem?_cons_zero] <;> rfl
            case hs2_3 => kernel_rfl
            case hf2_3 => kernel_rfl
            case hr2_3 => kernel_rfl
            case hQ2_3 => exact fun _ _ _ h => h
            case hy2_3 => exact Or.inl ⟨by rfl, fun w hSw => by obtain ⟨hS1, hS2⟩ := hSw; have q0 := hS1.c 0 (.pointer (some ⟨ba, 0, none⟩)) rfl; have q1 := hS1.c 1 (.pointer (some ⟨bt, 0, none⟩)) rfl; clear hS1; go_simp <;> (try with_reducible rfl)⟩
            simp only [Act.put, List.setIfInBounds_toArray, List.set_cons_zero, List.set_cons_succ]
            refine' wpAnyH_take (i := 3) ?hi3_3 ?hs3_3 ?hf3_3 ?hr3_3 ?hQ3_3 ?hy3_3 (by assumption) ?rest3_3
            case hi3_3 => simp only [List.getElem?_toArray, List.getElem?_cons_succ, List.getElem?_cons_zero] <;> rfl
            case hs3_3 => kernel_rfl
            case hf3_3 => kernel_rfl
            case hr3_3 => kernel_rfl
            case hQ3_3 => exact fun _ _ _ h => h
            case hy3_3 => exact Or.inl ⟨by rfl, fun w hSw => by obtain ⟨hS1, hS2⟩ := hSw; have q0 := hS1.c 0 (.pointer (some ⟨ba, 0, none⟩)) rfl; have q1 := hS1.c 1 (.pointer (some ⟨bt, 0, none⟩)) rfl; clear hS1; go_simp <;> (try with_reducible rfl)⟩
            simp only [Act.put, List.setIfInBounds_toArray, List.set_cons_zero, List.set_cons_succ]
            refine' wpAnyH_take (i := 4) ?hi4_3 ?hs4_3 ?hf4_3 ?hr4_3 ?hQ4_3 ?hy4_3 (by assumption) ?rest4_3
            case hi4_3 => simp only [List.getElem?_toArray, List.getElem?_cons_succ, List.getElem?_cons_zero] <;> rfl
            case hs4_3 => kernel_rfl
            case hf4_3 => kernel_rfl
            case hr4_3 => kernel_rfl
            case hQ4_3 => exact fun _ _ _ h => h
            case hy4_3 => exact Or.inl ⟨by rfl, fun w hSw => by obtain ⟨hS1, hS2⟩ := hSw; have q0 := hS1.c 0 (.pointer (some ⟨ba, 0, none⟩)) rfl; have q1 := hS1.c 1 (.pointer (some ⟨bt, 0, none⟩)) rfl; clear hS1; go_simp <;> (try with_reducible rfl)⟩
            simp only [Act.put, List.setIfInBounds_toArray, List.set_cons_zero, List.set_cons_succ]
            refine' wpAnyH_take (i := 5) ?hi5_3 ?hs5_3 ?hf5_3 ?hr5_3 ?hQ5_3 ?hy5_3 (by assumption) ?rest5_3
            case hi5_3 => simp only [List.getElem?_toArray, List.getElem?_cons_succ, List.getElem?_cons_zero] <;> rfl
            case hs5_3 => kernel_rfl
            case hf5_3 => kernel_rfl
            case hr5_3 => kernel_rfl
            case hQ5_3 => exact fun _ _ _ h => h
            case hy5_3 => exact Or.inl ⟨by rfl, fun w hSw => by obtain ⟨hS1, hS2⟩ := hSw; have q0 := hS1.c 0 (.pointer (some ⟨ba, 0, none⟩)) rfl; have q1 := hS1.c 1 (.pointer (some ⟨bt, 0, none⟩)) rfl; clear hS1; go_simp <;> (try with_reducible rfl)⟩
            simp only [Act.put, List.setIfInBounds_toArray, List.set_cons_zero, List.set_cons_succ]
            refine' wpAnyH_take (i := 8) ?hi8_3 ?hs8_3 ?hf8_3 ?hr8_3 ?hQ8_3 ?hy8_3 (by assumption) ?rest8_3
            case hi8_3 => simp only [List.getElem?_toArray, List.getElem?_cons_succ, List.getElem?_cons_zero] <;> rfl
            case hs8_3 => kernel_rfl
            case hf8_3 => kernel_rfl
            case hr8_3 => kernel_rfl
            case hQ8_3 => exact fun _ _ _ h => h
            case hy8_3 => exact Or.inl ⟨by rfl, fun w hSw => by obtain ⟨hS1, hS2⟩ := hSw; have q0 := hS1.c 0 (.pointer (some ⟨ba, 0, none⟩)) rfl; have q1 := hS1.c 1 (.pointer (some ⟨bt, 0, none⟩)) rfl; clear hS1; go_simp <;> (try with_reducible rfl)⟩
            simp only [Act.put, List.setIfInBounds_toArray, List.set_cons_zero, List.set_cons_succ]
            refine' wpAnyH_take (i := 9) ?hi9_3 ?hs9_3 ?hf9_3 ?hr9_3 ?hQ9_3 ?hy9_3 (by assumption) ?rest9_3
            case hi9_3 => simp only [List.getElem?_toArray, List.getElem?_cons_succ, List.getElem?_cons_zero] <;> rfl
            case hs9_3 => kernel_rfl
            case hf9_3 => kernel_rfl
            case hr9_3 => kernel_rfl
            case hQ9_3 => exact fun _ _ _ h => h
            case hy9_3 => exact Or.inl ⟨by rfl, fun w hSw => by obtain ⟨hS1, hS2⟩ := hSw; have q0 := hS1.c 0 (.pointer (some ⟨ba, 0, none⟩)) rfl; have q1 := hS1.c 1 (.pointer (some ⟨bt, 0, none⟩)) rfl; clear hS1; go_simp <;> (try with_reducible rfl)⟩
            simp only [Act.put, List.setIfInBounds_toArray, List.set_cons_zero, List.set_cons_succ]
            refine' wpAnyH_take (i := 10) ?hi10_3 ?hs10_3 ?hf10_3 ?hr10_3 ?hQ10_3 ?hy10_3 (by assumption) ?rest10_3
            case hi10_3 => simp only [List.getElem?_toArray, List.getElem?_cons_succ, List.getElem?_cons_zero] <;> rfl
            case hs10_3 => kernel_rfl
            case hf10_3 => kernel_rfl
            case hr10_3 => kernel_rfl
            case hQ10_3 => exact fun _ _ _ h => h
            case hy10_3 => exact Or.inl ⟨by rfl, fun w hSw => by obtain ⟨hS1, hS2⟩ := hSw; have q0 := hS1.c 0 (.pointer (some ⟨ba, 0, none⟩)) rfl; have q1 := hS1.c 1 (.pointer (some ⟨bt, 0, none⟩)) rfl; clear hS1; go_simp <;> (try with_reducible rfl)⟩
            simp only [Act.put, List.setIfInBounds_toArray, List.set_cons_zero, List.set_cons_succ]
            refine wpAnyH_ready (rs := [6]) (by kernel_rfl) (by simp) ?_
            refine AllReadyH.cons rfl (fun K hK => ?_) AllReadyH.nil
            go_simp
            ((with_reducible refine HC.out.mono ?_); rintro e w' ⟨rfl, s9, o9⟩)
            go_wp2_with fail
            refine hK.out _ _ ⟨hHeld.1.touch o9 (by show ¬ (wa.heap.size = bw); omega), (World.cell?_of_block (o9.block rb (block_lt_of_cell hHeld.2) hrb)).trans hHeld.2⟩ (fun hHeld => ?_)
            clear hK K
            refine' wpAnyH_take (i := 7) ?hi7_3 ?hs7_3 ?hf7_3 ?hr7_3 ?hQ7_3 ?hy7_3 (by assumption) ?rest7_3
            case hi7_3 => simp only [List.getElem?_toArray, List.getElem?_cons_succ, List.getElem?_cons_zero] <;> rfl
            case hs7_3 => kernel_rfl
            case hf7_3 => kernel_rfl
            case hr7_3 => kernel_rfl
            case hQ7_3 => exact fun _ _ _ h => h
            case hy7_3 => exact Or.inl ⟨by rfl, fun w hSw => by go_simp <;> (try with_reducible rfl)⟩
            simp only [Act.put, List.setIfInBounds_toArray, List.set_cons_zero, List.set_cons_succ]
            refine' wpAnyH_take (i := 11) ?hi11_3 ?hs11_3 ?hf11_3 ?hr11_3 ?hQ11_3 ?hy11_3 (by assumption) ?rest11_3
            case hi11_3 => simp only [List.getElem?_toArray, List.getElem?_cons_succ, List.getElem?_cons_zero] <;> rfl
            case hs11_3 => kernel_rfl
            case hf11_3 => kernel_rfl
            case hr11_3 => kernel_rfl
            case hQ11_3 => exact fun _ _ _ h => h
            case hy11_3 => exact Or.inl ⟨by rfl, fun w hSw => by go_simp <;> (try with_reducible rfl)⟩
            simp only [Act.put, List.setIfInBounds_toArray, List.set_cons_zero, List.set_cons_succ]
            refine wpAnyH_done (by kernel_rfl) ?_ _
            refine NoPanic.normal ?_
            go_wp2_with fail
            go_roundw
            case rel => exact ⟨q123 + 1, by omega, by go_num, s9, (or123.trans_ (Touch.drew (Only.refl bw _))).trans_ o9⟩
            case measure => simp [intOf]; omega
          ·
            have SD : St wr123.drew ba bw 200 (fldF f r d nr q123 R D) bt A' m cap' C := St.keep SQ123 ((Touch.refl _ _).drew)
            have hge : d ≤ (q123 : Int) := by omega
            have HC := Lib.hid (fld_setnum_no HFF.out SD hge)
            clear SD hin
            have hrb : rb ≠ bw := fun e => by have := (HDd.out.one hlt); obtain ⟨b', o', e', c'⟩ := this; cases e'; have := block_lt_of_cell c'; have : rb < w.heap.size := this; omega
            go_wp2_with fail
            refine wp_region_noPanic ?_
            refine wp_region_held_drew (S := (fun w' => BL w' (wa.heap.size) 26 [.pointer (some ⟨ba, 0, none⟩), .pointer (some ⟨bt, 0, none⟩)] ∧ w'.cell? ⟨rb, ro + q123, none⟩ = some (.int .i64 (D q123)))) (by kernel_rfl) ⟨Bwr123_S.drew, cR2⟩ (fun hHeld => ?_)
            refine' wpAnyH_take (i := 0) ?hi0_4 ?hs0_4 ?hf0_4 ?hr0_4 ?hQ0_4 ?hy0_4 (by assumption) ?rest0_4
            case hi0_4 => simp only [List.getElem?_toArray, List.getElem?_cons_zero] <;> rfl
            case hs0_4 => kernel_rfl
            case hf0_4 => kernel_rfl
            case hr0_4 => kernel_rfl
            case hQ0_4 => exact fun _ _ _ h => h
            case hy0_4 => exact Or.inl ⟨by rfl, fun w hSw => by obtain ⟨hS1, hS2⟩ := hSw; have q0 := hS1.c 0 (.pointer (some ⟨ba, 0, none⟩)) rfl; have q1 := hS1.c 1 (.pointer (some ⟨bt, 0, none⟩)) rfl; clear hS1; go_simp <;> (try with_reducible rfl)⟩
            simp only [Act.put, List.setIfInBounds_toArray, List.set_cons_zero, List.set_cons_succ]
            refine' wpAnyH_take (i := 1) ?hi1_4 ?hs1_4 ?hf1_4 ?hr1_4 ?hQ1_4 ?hy1_4 (by assumption) ?rest1_4
            case hi1_4 => simp only [List.getElem?_toArray, List.getElem?_cons_succ, List.getElem?_cons_zero] <;> rfl
            case hs1_4 => kernel_rfl
            case hf1_4 => kernel_rfl
            case hr1_4 => kernel_rfl
            case hQ1_4 => exact fun _ _ _ h => h
            case hy1_4 => exact Or.inl ⟨by rfl, fun w hSw => by obtain ⟨hS1, hS2⟩ := hSw; have q0 := hS1.c 0 (.pointer (some ⟨ba, 0, none⟩)) rfl; have q1 := hS1.c 1 (.pointer (some ⟨bt, 0, none⟩)) rfl; clear hS1; go_simp <;> (try with_reducible rfl)⟩
            simp only [Act.put, List.setIfInBounds_toArray, List.set_cons_zero, List.set_cons_succ]
            refine' wpAnyH_take (i := 2) ?hi2_4 ?hs2_4 ?hf2_4 ?hr2_4 ?hQ2_4 ?hy2_4 (by assumption) ?rest2_4
            case hi2_4 => simp only [List.getElem?_toArray, List.getElem?_cons_succ, List.getElem?_cons_zero] <;> rfl
            case hs2_4 => kernel_rfl
            case hf2_4 => kernel_rfl
            case hr2_4 => kernel_rfl
            case hQ2_4 => exact fun _ _ _ h => h
            case hy2_4 => exact Or.inl ⟨by rfl, fun w hSw => by obtain ⟨hS1, hS2⟩ := hSw; have q0 := hS1.c 0 (.pointer (some ⟨ba, 0, none⟩)) rfl; have q1 := hS1.c 1 (.pointer (some ⟨bt, 0, none⟩)) rfl; clear hS1; go_simp <;> (try with_reducible rfl)⟩
            simp only [Act.put, List.setIfInBounds_toArray, List.set_cons_zero, List.set_cons_succ]
            refine' wpAnyH_take (i := 3) ?hi3_4 ?hs3_4 ?hf3_4 ?hr3_4 ?hQ3_4 ?hy3_4 (by assumption) ?rest3_4
            case hi3_4 => simp only [List.getElem?_toArray, List.getElem?_cons_succ, List.getElem?_cons_zero] <;> rfl
            case hs3_4 => kernel_rfl
            case hf3_4 => kernel_rfl
            case hr3_4 => kernel_rfl
            case hQ3_4 => exact fun _ _ _ h => h
            case hy3_4 => exact Or.inl ⟨by rfl, fun w hSw => by obtain ⟨hS1, hS2⟩ := hSw; have q0 := hS1.c 0 (.pointer (some ⟨ba, 0, none⟩)) rfl; have q1 := hS1.c 1 (.pointer (some ⟨bt, 0, none⟩)) rfl; clear hS1; go_simp <;> (try with_reducible rfl)⟩
            simp only [Act.put, List.setIfInBounds_toArray, List.set_cons_zero, List.set_cons_succ]
            refine' wpAnyH_take (i := 4) ?hi4_4 ?hs4_4 ?hf4_4 ?hr4_4 ?hQ4_4 ?hy4_4 (by assumption) ?rest4_4
            case hi4_4 => simp only [List.getElem?_toArray, List.getElem?_cons_succ, List.getElem?_cons_zero] <;> rfl
            case hs4_4 => kernel_rfl
            case hf4_4 => kernel_rfl
            case hr4_4 => kernel_rfl
            case hQ4_4 => exact fun _ _ _ h => h
            case hy4_4 => exact Or.inl ⟨by rfl, fun w hSw => by obtain ⟨hS1, hS2⟩ := hSw; have q0 := hS1.c 0 (.pointer (some ⟨ba, 0, none⟩)) rfl; have q1 := hS1.c 1 (.pointer (some ⟨bt, 0, none⟩)) rfl; clear hS1; go_simp <;> (try with_reducible rfl)⟩
            simp only [Act.put, List.setIfInBounds_toArray, List.set_cons_zero, List.set_cons_succ]
            refine' wpAnyH_take (i := 5) ?hi5_4 ?hs5_4 ?hf5_4 ?hr5_4 ?hQ5_4 ?hy5_4 (by assumption) ?rest5_4
            case hi5_4 => simp only [List.getElem?_toArray, List.getElem?_cons_succ, List.getElem?_cons_zero] <;> rfl
            case hs5_4 => kernel_rfl
            case hf5_4 => kernel_rfl
            case hr5_4 => kernel_rfl
            case hQ5_4 => exact fun _ _ _ h => h
            case hy5_4 => exact Or.inl ⟨by rfl, fun w hSw => by obtain ⟨hS1, hS2⟩ := hSw; have q0 := hS1.c 0 (.pointer (some ⟨ba, 0, none⟩)) rfl; have q1 := hS1.c 1 (.pointer (some ⟨bt, 0, none⟩)) rfl; clear hS1; go_simp <;> (try with_reducible rfl)⟩
            simp only [Act.put, List.setIfInBounds_toArray, List.set_cons_zero, List.set_cons_succ]
            refine' wpAnyH_take (i := 8) ?hi8_4 ?hs8_4 ?hf8_4 ?hr8_4 ?hQ8_4 ?hy8_4 (by assumption) ?rest8_4
            case hi8_4 => simp only [List.getElem?_toArray, List.getElem?_cons_succ, List.getElem?_cons_zero] <;> rfl
            case hs8_4 => kernel_rfl
            case hf8_4 => kernel_rfl
            case hr8_4 => kernel_rfl
            case hQ8_4 => exact fun _ _ _ h => h
            case hy8_4 => exact Or.inl ⟨by rfl, fun w hSw => by obtain ⟨hS1, hS2⟩ := hSw; have q0 := hS1.c 0 (.pointer (some ⟨ba, 0, none⟩)) rfl; have q1 := hS1.c 1 (.pointer (some ⟨bt, 0, none⟩)) rfl; clear hS1; go_simp <;> (try with_reducible rfl)⟩
            simp only [Act.put, List.setIfInBounds_toArray, List.set_cons_zero, List.set_cons_succ]
            refine' wpAnyH_take (i := 9) ?hi9_4 ?hs9_4 ?hf9_4 ?hr9_4 ?hQ9_4 ?hy9_4 (by assumption) ?rest9_4
            case hi9_4 => simp only [List.getElem?_toArray, List.getElem?_cons_succ, List.getElem?_cons_zero] <;> rfl
            case hs9_4 => kernel_rfl
            case hf9_4 => kernel_rfl
            case hr9_4 => kernel_rfl
            case hQ9_4 => exact fun _ _ _ h => h
            case hy9_4 => exact Or.inl ⟨by rfl, fun w hSw => by obtain ⟨hS1, hS2⟩ := hSw; have q0 := hS1.c 0 (.pointer (some ⟨ba, 0, none⟩)) rfl; have q1 := hS1.c 1 (.pointer (some ⟨bt, 0, none⟩)) rfl; clear hS1; go_simp <;> (try with_reducible rfl)⟩
            simp only [Act.put, List.setIfInBounds_toArray, List.set_cons_zero, List.set_cons_succ]
            refine' wpAnyH_take (i := 10) ?hi10_4 ?hs10_4 ?hf10_4 ?hr10_4 ?hQ10_4 ?hy10_4 (by assumption) ?rest10_4
            case hi10_4 => simp only [List.getElem?_toArray, List.getElem?_cons_succ, List.getElem?_cons_zero] <;> rfl
            case hs10_4 => kernel_rfl
            case hf10_4 => kernel_rfl
            case hr10_4 => kernel_rfl
            case hQ10_4 => exact fun _ _ _ h => h
            case hy10_4 => exact Or.inl ⟨by rfl, fun w hSw => by obtain ⟨hS1, hS2⟩ := hSw; have q0 := hS1.c 0 (.pointer (some ⟨ba, 0, none⟩)) rfl; have q1 := hS1.c 1 (.pointer (some ⟨bt, 0, none⟩)) rfl; clear hS1; go_simp <;> (try with_reducible rfl)⟩
            simp only [Act.put, List.setIfInBounds_toArray, List.set_cons_zero, List.set_cons_succ]
            refine wpAnyH_ready (rs := [6]) (by kernel_rfl) (by simp) ?_
            refine AllReadyH.cons rfl (fun K hK => ?_) AllReadyH.nil
            go_simp
            ((with_reducible refine HC.out.mono ?_); rintro e w' ⟨rfl, k9⟩)
            go_wp2_with fail
            refine hK.out _ _ ⟨hHeld.1.keep k9, (World.cell?_of_block (k9.block rb (block_lt_of_cell hHeld.2) (fun h => h))).trans hHeld.2⟩ (fun hHeld => ?_)
            clear hK K
            refine' wpAnyH_take (i := 7) ?hi7_4 ?hs7_4 ?hf7_4 ?hr7_4 ?hQ7_4 ?hy7_4 (by assumption) ?rest7_4
            case hi7_4 => simp only [List.getElem?_toArray, List.getElem?_cons_succ, List.getElem?_cons_zero] <;> rfl
            case hs7_4 => kernel_rfl
            case hf7_4 => kernel_rfl
            case hr7_4 => kernel_rfl
            case hQ7_4 => exact fun _ _ _ h => h
            case hy7_4 => exact Or.inl ⟨by rfl, fun w hSw => by go_simp <;> (try with_reducible rfl)⟩
            simp only [Act.put, List.setIfInBounds_toArray, List.set_cons_zero, List.set_cons_succ]
            refine' wpAnyH_take (i := 11) ?hi11_4 ?hs11_4 ?hf11_4 ?hr11_4 ?hQ11_4 ?hy11_4 (by assumption) ?rest11_4
            case hi11_4 => simp only [List.getElem?_toArray, List.getElem?_cons_succ, List.getElem?_cons_zero] <;> rfl
            case hs11_4 => kernel_rfl
            case hf11_4 => kernel_rfl
            case hr11_4 => kernel_rfl
            case hQ11_4 => exact fun _ _ _ h => h
            case hy11_4 => exact Or.inl ⟨by rfl, fun w hSw => by go_simp <;> (try with_reducible rfl)⟩
            simp only [Act.put, List.setIfInBounds_toArray, List.set_cons_zero, List.set_cons_succ]
            refine wpAnyH_done (by kernel_rfl) ?_ _
            refine NoPanic.normal ?_
            go_wp2_with fail
            go_roundw
            case rel => exact ⟨q123 + 1, by omega, by go_num, by rw [fld_num_past hge]; exact St.keep SQ123 (Keeps.trans (Touch.drew (Touch.refl _ _)) k9), (or123.trans_ (Touch.drew (Only.refl bw _))).keep k9⟩
            case measure => simp [intOf]; omega
        ·
          have HOL123 := Lib.hid (HOL105.out.touch or123 (fun k e h => by have := (HLo.out k e).1; have h2 : k = bw := h; omega))
          obtain rfl : nd = q123 := by omega
          clear hlt hq or123
          have l35 := Bwr123_S.lt
          have l36 := Bwr123_H.lt
          go_wp2_with fail
          have SG := SQ123
          go_loopw [140] (fun i wr => ∃ q : Nat, (q : Int) ≤ r ∧ i = .int .i64 q ∧ Keeps wr123 wr) (fun i _ => (r - intOf i).toNat)
          case atStart => exact ⟨0, by omega, rfl, Touch.refl _ _⟩
          case round =>
            obtain ⟨wr140, rfl⟩ : ∃ wo : World, wo = wr := ⟨_, rfl⟩
            obtain ⟨q140, hq, rfl, kr⟩ := hrel
            have Kwr140 := Keeps.trans Kwr123 kr
            have Bwr140_S := BL.keep Bwr123_S kr
            have Bwr140_H := BL.keep Bwr123_H kr
            have Swr140 := St.keep SG kr
            have zwr140 := kr.size
            clear l35 l36 Bwr123_S Bwr123_H
            by_cases hlt : (q140 : Int) < r
            ·
              have l37 := Bwr140_S.lt
              have l38 := Bwr140_H.lt
              have c39 : wr140.cell? ⟨wa.heap.size, 0, none⟩ = some (.pointer (some ⟨ba, 0, none⟩)) := Bwr140_S.c 0 _ rfl
              have c40 : wr140.cell? ⟨wa.heap.size, 1, none⟩ = some (.pointer (some ⟨bt, 0, none⟩)) := Bwr140_S.c 1 _ rfl
              have hC := fld_ref_at HFF.out Swr140 hlt
              by_cases hin : q140 < nr
              ·
                rw [if_pos hin] at hC
                have HC := Lib.hid hC
                obtain ⟨rb, ro, rfl, cR⟩ := (HRd.out.keep Kwr140).one hin
                have cR2 : wr140.cell? ⟨rb, ro + q140, none⟩ = some (.int .i64 (R q140)) := cR
                have hin' : (q140 : Int) < (nr : Int) := by omega
                clear cR hC
                go_wp2_with fail
                refine Calls.mono (HC.out) ?_
                rintro e wq ⟨rfl, kq⟩
                have Kwq := Keeps.trans Kwr140 kq
                have Bwq_S := BL.keep Bwr140_S kq
                have Bwq_H := BL.keep Bwr140_H kq
                have zwq := kq.size
                have Swq := St.keep Swr140 kq
                clear l37 l38 c39 c40 Swr140 Bwr140_S Bwr140_H Kwr140
                have l41 := Bwq_S.lt
                have l42 := Bwq_H.lt
                go_wp2_with fail
                go_roundw
                case rel => exact ⟨q140 + 1, by omega, by go_num, Keeps.trans kr kq⟩
                case measure => simp [intOf]; omega
              ·
                rw [if_neg hin] at hC
                have HC := Lib.hid hC
                have hin' : ¬ ((q140 : Int) < (nr : Int)) := by omega
                clear hC
                go_wp2_with fail
                refine Calls.mono (HC.out) ?_
                rintro e wq ⟨rfl, kq⟩
                have Kwq := Keeps.trans Kwr140 kq
                have Bwq_S := BL.keep Bwr140_S kq
                have Bwq_H := BL.keep Bwr140_H kq
                have zwq := kq.size
                have Swq := St.keep Swr140 kq
                clear l37 l38 c39 c40 Swr140 Bwr140_S Bwr140_H Kwr140
                have l43 := Bwq_S.lt
                have l44 := Bwq_H.lt
                go_wp2_with fail
                go_roundw
                case rel => exact ⟨q140 + 1, by omega, by go_num, Keeps.trans kr kq⟩
                case measure => simp [intOf]; omega
            ·
              have HOL140 := Lib.hid (HOL123.out.keep kr)
              have hge140 : r ≤ (q140 : Int) := by omega
              clear hlt kr hq
              have l45 := Bwr140_S.lt
              have l46 := Bwr140_H.lt
              go_wp2_with fail
              go_loopw [166] (fun i wr => ∃ q : Nat, (q : Int) ≤ d ∧ i = .int .i64 q ∧ Keeps wr140 wr) (fun i _ => (d - intOf i).toNat)
              case atStart => exact ⟨0, by omega, rfl, Touch.refl _ _⟩
              case round =>
                obtain ⟨wr166, rfl⟩ : ∃ wo : World, wo = wr := ⟨_, rfl⟩
                obtain ⟨q166, hq, rfl, kr⟩ := hrel
                have Kwr166 := Keeps.trans Kwr140 kr
                have Bwr166_S := BL.keep Bwr140_S kr
                have Bwr166_H := BL.keep Bwr140_H kr
                have Swr166 := St.keep Swr140 kr
                have zwr166 := kr.size
                clear l45 l46 Bwr140_S Bwr140_H
                by_cases hlt : (q166 : Int) < d
                ·
                  have l47 := Bwr166_S.lt
                  have l48 := Bwr166_H.lt
                  have c49 : wr166.cell? ⟨wa.heap.size, 0, none⟩ = some (.pointer (some ⟨ba, 0, none⟩)) := Bwr166_S.c 0 _ rfl
                  have c50 : wr166.cell? ⟨wa.heap.size, 1, none⟩ = some (.pointer (some ⟨bt, 0, none⟩)) := Bwr166_S.c 1 _ rfl
                  have hC := fld_num_at HFF.out Swr166 hlt
                  by_cases hin : q166 < nd
                  ·
                    rw [if_pos hin] at hC
                    have HC := Lib.hid hC
                    obtain ⟨rb, ro, rfl, cR⟩ := (HDd.out.keep Kwr166).one hin
                    have cR2 : wr166.cell? ⟨rb, ro + q166, none⟩ = some (.int .i64 (D q166)) := cR
                    have hin' : (q166 : Int) < (nd : Int) := by omega
                    clear cR hC
                    go_wp2_with fail
                    refine Calls.mono (HC.out) ?_
                    rintro e wq ⟨rfl, kq⟩
                    have Kwq := Keeps.trans Kwr166 kq
                    have Bwq_S := BL.keep Bwr166_S kq
                    have Bwq_H := BL.keep Bwr166_H kq
                    have zwq := kq.size
                    have Swq := St.keep Swr166 kq
                    clear l47 l48 c49 c50 Swr166 Bwr166_S Bwr166_H Kwr166
                    have l51 := Bwq_S.lt
                    have l52 := Bwq_H.lt
                    go_wp2_with fail
                    go_roundw
                    case rel => exact ⟨q166 + 1, by omega, by go_num, Keeps.trans kr kq⟩
                    case measure => simp [intOf]; omega
                  ·
                    rw [if_neg hin] at hC
                    have HC := Lib.hid hC
                    have hin' : ¬ ((q166 : Int) < (nd : Int)) := by omega
                    clear hC
                    go_wp2_with fail
                    refine Calls.mono (HC.out) ?_
                    rintro e wq ⟨rfl, kq⟩
                    have Kwq := Keeps.trans Kwr166 kq
                    have Bwq_S := BL.keep Bwr166_S kq
                    have Bwq_H := BL.keep Bwr166_H kq
                    have zwq := kq.size
                    have Swq := St.keep Swr166 kq
                    clear l47 l48 c49 c50 Swr166 Bwr166_S Bwr166_H Kwr166
                    have l53 := Bwq_S.lt
                    have l54 := Bwq_H.lt
                    go_wp2_with fail
                    go_roundw
                    case rel => exact ⟨q166 + 1, by omega, by go_num, Keeps.trans kr kq⟩
                    case measure => simp [intOf]; omega
                ·
                  have HOL166 := Lib.hid (HOL140.out.keep kr)
                  have hge166 : d ≤ (q166 : Int) := by omega
                  clear hlt kr hq
                  have l55 := Bwr166_S.lt
                  have l56 := Bwr166_H.lt
                  clear l55 l56
                  have l57 := Bwr166_S.lt
                  have l58 := Bwr166_H.lt
                  have c59 : wr166.cell? ⟨wa.heap.size, 0, none⟩ = some (.pointer (some ⟨ba, 0, none⟩)) := Bwr166_S.c 0 _ rfl
                  have c60 : wr166.cell? ⟨wa.heap.size, 1, none⟩ = some (.pointer (some ⟨bt, 0, none⟩)) := Bwr166_S.c 1 _ rfl
                  have c61 : wr166.cell? ⟨wy.heap.size, 0, none⟩ = some (.int .i64 hcl) := Bwr166_H.c 0 _ rfl
                  have c62 : wr166.cell? ⟨wy.heap.size, 1, none⟩ = some (.int .i64 hag) := Bwr166_H.c 1 _ rfl
                  have c63 : wr166.cell? ⟨wy.heap.size, 2, none⟩ = some (.int .i64 hfw) := Bwr166_H.c 2 _ rfl
                  have c64 : wr166.cell? ⟨wy.heap.size, 3, none⟩ = some (.bool hmk) := Bwr166_H.c 3 _ rfl
                  have c65 : wr166.cell? ⟨wy.heap.size, 4, none⟩ = some (.bool hfi) := Bwr166_H.c 4 _ rfl
                  have c66 : wr166.cell? ⟨wy.heap.size, 5, none⟩ = some (.bool hdn) := Bwr166_H.c 5 _ rfl
                  go_wp2_with fail
                  refine Calls.mono (words_yes ba bw 200 _ _ Swr166.ar 100 40 (by omega) (by omega) (by omega)) ?_
                  rintro e wx2 ⟨v2, rfl, hO2, k1⟩
                  have Kwx2 := Keeps.trans Kwr166 k1
                  have Bwx2_S := BL.keep Bwr166_S k1
                  have Bwx2_H := BL.keep Bwr166_H k1
                  have zwx2 := k1.size
                  have Swx2 := St.keep Swr166 k1
                  clear l57 l58 c59 c60 c61 c62 c63 c64 c65 c66 Swr166 Bwr166_S Bwr166_H Kwr166
                  have l67 := Bwx2_S.lt
                  have l68 := Bwx2_H.lt
                  have c69 : wx2.cell? ⟨wa.heap.size, 0, none⟩ = some (.pointer (some ⟨ba, 0, none⟩)) := Bwx2_S.c 0 _ rfl
                  have c70 : wx2.cell? ⟨wa.heap.size, 1, none⟩ = some (.pointer (some ⟨bt, 0, none⟩)) := Bwx2_S.c 1 _ rfl
                  have c71 : wx2.cell? ⟨wy.heap.size, 0, none⟩ = some (.int .i64 hcl) := Bwx2_H.c 0 _ rfl
                  have c72 : wx2.cell? ⟨wy.heap.size, 1, none⟩ = some (.int .i64 hag) := Bwx2_H.c 1 _ rfl
                  have c73 : wx2.cell? ⟨wy.heap.size, 2, none⟩ = some (.int .i64 hfw) := Bwx2_H.c 2 _ rfl
                  have c74 : wx2.cell? ⟨wy.heap.size, 3, none⟩ = some (.bool hmk) := Bwx2_H.c 3 _ rfl
                  have c75 : wx2.cell? ⟨wy.heap.size, 4, none⟩ = some (.bool hfi) := Bwx2_H.c 4 _ rfl
                  have c76 : wx2.cell? ⟨wy.heap.size, 5, none⟩ = some (.bool hdn) := Bwx2_H.c 5 _ rfl
                  have HP2 := Lib.hid hO2
                  have HOM := Lib.hid (HOL166.out.keep k1)
                  clear hO2 k1
                  go_wp2_with fail
                  refine Calls.mono (ohead_any ba bw 200 _ bt A' m cap' C _ Swx2 1) ?_
                  rintro e wy2 ⟨rfl, k2⟩
                  have Kwy2 := Keeps.trans Kwx2 k2
                  have Bwy2_S := BL.keep Bwx2_S k2
                  have Bwy2_H := BL.keep Bwx2_H k2
                  have zwy2 := k2.size
                  have Swy2 := St.keep Swx2 k2
                  clear l67 l68 c69 c70 c71 c72 c73 c74 c75 c76 Swx2 Bwx2_S Bwx2_H Kwx2
                  have l77 := Bwy2_S.lt
                  have l78 := Bwy2_H.lt
                  have c79 : wy2.cell? ⟨wy.heap.size, 0, none⟩ = some (.int .i64 hcl) := Bwy2_H.c 0 _ rfl
                  have c80 : wy2.cell? ⟨wy.heap.size, 1, none⟩ = some (.int .i64 hag) := Bwy2_H.c 1 _ rfl
                  have c81 : wy2.cell? ⟨wy.heap.size, 2, none⟩ = some (.int .i64 hfw) := Bwy2_H.c 2 _ rfl
                  have c82 : wy2.cell? ⟨wy.heap.size, 3, none⟩ = some (.bool hmk) := Bwy2_H.c 3 _ rfl
                  have c83 : wy2.cell? ⟨wy.heap.size, 4, none⟩ = some (.bool hfi) := Bwy2_H.c 4 _ rfl
                  have c84 : wy2.cell? ⟨wy.heap.size, 5, none⟩ = some (.bool hdn) := Bwy2_H.c 5 _ rfl
                  have HP3 := Lib.hid (HP2.out.keep k2)
                  have HON := Lib.hid (HOM.out.keep k2)
                  rw [fldF_head HFF.out, HOB.out]
                  unfold hdV
                  dsimp only
                  clear HP2 k2
                  go_wp2_with fail
                  refine named (fun W85 hW85 => ?_)
                  have KW85 : Keeps w W85 := by rw [hW85]; exact (Kwy2.alloc _)
                  have BW85_S : BL W85 (wa.heap.size) 26 [.pointer (some ⟨ba, 0, none⟩), .pointer (some ⟨bt, 0, none⟩)] := by rw [hW85]; exact (BL.alloc Bwy2_S _)
                  have BW85_H : BL W85 (wy.heap.size) 33 [.int .i64 hcl, .int .i64 hag, .int .i64 hfw, .bool hmk, .bool hfi, .bool hdn] := by rw [hW85]; exact (BL.alloc Bwy2_H _)
                  have BW85_G : BL W85 (wy2.heap.size) 33 [.int .i64 hcl, .int .i64 hag, .int .i64 hfw, .bool hmk, .bool hfi, .bool hdn] := by rw [hW85]; exact (BL.new1 _ _ _ [.int .i64 hcl, .int .i64 hag, .int .i64 hfw, .bool hmk, .bool hfi, .bool hdn] _ (by simp) rfl)
                  have kW85 : Keeps wy2 W85 := by rw [hW85]; exact ((Touch.refl _ _).alloc _)
                  have zW85 : wy2.heap.size + 1 ≤ W85.heap.size := by rw [hW85]; simp
                  have SW85 := St.keep Swy2 (show Keeps wy2 W85 by rw [hW85]; exact ((Touch.refl _ _).alloc _))
                  clear l77 l78 c79 c80 c81 c82 c83 c84 Swy2 Bwy2_S Bwy2_H Kwy2 hW85
                  have l86 := BW85_S.lt
                  have l87 := BW85_H.lt
                  have l88 := BW85_G.lt
                  have HP4 := Lib.hid (HP3.out.keep kW85)
                  have HOP := Lib.hid (HON.out.keep kW85)
                  clear HP3 HON kW85
                  have hlen : ∀ F : Nat → Int, ((List.range (40 : Int).toNat).map F).length = 40 := fun F => by simp
                  obtain ⟨ad1, cp1, e1⟩ := HOP.out.form
                  obtain ⟨ad2, cp2, e2⟩ := HP4.out.form
                  have R1 := (show OwnInts _ _ (.slice ad1 _ cp1) _ from e1 ▸ HOP.out).rd.1
                  have R2 := (show OwnInts _ _ (.slice ad2 _ cp2) _ from e2 ▸ HP4.out).rd.1
                  rw [hlen] at R1 R2 e1 e2
                  subst e1
                  subst e2
                  have HSm := Lib.hid (same_any ad1 ad2 40 40 cp1 cp2 _ _ _ R1 R2 (by omega) (by omega))
                  have HT := Lib.hid (fld_same (i := nr) (j := nd) (R := R) (D := D) HFF.out)
                  clear R1 R2 hlen
                  rw [HT.out] at HSm
                  go_wp2_with fail
                  refine Calls.mono (HSm.out) ?_
                  rintro e w89 ⟨rfl, kw89⟩
                  have Kw89 := Keeps.trans KW85 kw89
                  have Bw89_S := BL.keep BW85_S kw89
                  have Bw89_H := BL.keep BW85_H kw89
                  have Bw89_G := BL.keep BW85_G kw89
                  have zw89 := kw89.size
                  have Sw89 := St.keep SW85 kw89
                  clear l86 l87 l88 SW85 BW85_S BW85_H BW85_G KW85 kw89
                  have l90 := Bw89_S.lt
                  have l91 := Bw89_H.lt
                  have l92 := Bw89_G.lt
                  have c93 : w89.cell? ⟨wy.heap.size, 0, none⟩ = some (.int .i64 hcl) := Bw89_H.c 0 _ rfl
                  have c94 : w89.cell? ⟨wy.heap.size, 1, none⟩ = some (.int .i64 hag) := Bw89_H.c 1 _ rfl
                  have c95 : w89.cell? ⟨wy.heap.size, 2, none⟩ = some (.int .i64 hfw) := Bw89_H.c 2 _ rfl
                  have c96 : w89.cell? ⟨wy.heap.size, 3, none⟩ = some (.bool hmk) := Bw89_H.c 3 _ rfl
                  have c97 : w89.cell? ⟨wy.heap.size, 4, none⟩ = some (.bool hfi) := Bw89_H.c 4 _ rfl
                  have c98 : w89.cell? ⟨wy.heap.size, 5, none⟩ = some (.bool hdn) := Bw89_H.c 5 _ rfl
                  have c99 : w89.cell? ⟨wy2.heap.size, 0, none⟩ = some (.int .i64 hcl) := Bw89_G.c 0 _ rfl
                  have c100 : w89.cell? ⟨wy2.heap.size, 1, none⟩ = some (.int .i64 hag) := Bw89_G.c 1 _ rfl
                  have c101 : w89.cell? ⟨wy2.heap.size, 2, none⟩ = some (.int .i64 hfw) := Bw89_G.c 2 _ rfl
                  have c102 : w89.cell? ⟨wy2.heap.size, 3, none⟩ = some (.bool hmk) := Bw89_G.c 3 _ rfl
                  have c103 : w89.cell? ⟨wy2.heap.size, 4, none⟩ = some (.bool hfi) := Bw89_G.c 4 _ rfl
                  have c104 : w89.cell? ⟨wy2.heap.size, 5, none⟩ = some (.bool hdn) := Bw89_G.c 5 _ rfl
                  go_wp2_with fail
                  go_ret
                  exact ⟨rfl, Kw89⟩
theorem ofields_walk (w : World) (A : Option Addr) (m cap : Nat) (hA : A = none → m = 0 ∧ cap = 0) (C : Nat → Cl) (hr : Rd w A (m * 4) (clF C)) (x y : Int) (hx : 0 ≤ x ∧ x ≤ 255) (hy : 0 ≤ y ∧ y ≤ 255) (AR : Option Addr) (nr cr : Nat) (R : Nat → Int) (hR : Rd w AR nr (intF .i64 R)) (AD : Option Addr) (nd cd : Nat) (D : Nat → Int) (hD : Rd w AD nd (intF .i64 D)) : Calls Try.prog 5 #[.slice A m cap, .int .u8 x, .int .u8 y, .slice AR nr cr, .slice AD nd cd] w fun e w' => e = .returned (.bool true) ∧ Keeps w w' := by
  by_cases s1 : nr ≤ 60
  · by_cases s2 : nd ≤ 60
    · by_cases h1 : 100 < m
      · exact ofields_full w A m cap hA C hr x y hx hy AR nr cr R hR AD nd cd D hD s1 s2 h1
      · by_cases h2 : newE C m = 0
        · by_cases h3 : m = 0
          · exact ofields_zero w A m cap hA C hr x y hx hy AR nr cr R hR AD nd cd D hD s1 s2 h3
          · exact ofields_walk1 w A m cap hA C hr x y hx hy AR nr cr R hR AD nd cd D hD s1 s2 (by omega) h2 (by omega)
        · exact ofields_bad w A m cap hA C hr x y hx hy AR nr cr R hR AD nd cd D hD s1 s2 ⟨by omega, h2⟩
    · exact ofields_longd w A m cap hA C hr x y hx hy AR nr cr R hR AD nd cd D hD (by omega) s1
  · exact ofields_longr w A m cap hA C hr x y hx hy AR nr cr R hR AD nd cd D hD (by omega)


end Go.Proofs.Ytnijlddmbemnoaa
