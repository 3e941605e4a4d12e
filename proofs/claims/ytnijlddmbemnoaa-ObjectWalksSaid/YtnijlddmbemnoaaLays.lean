/- The law ObjectLays. -/
import Derived.Test.YtnijlddmbemnoaaBoth
import Derived.Test.YtnijlddmbemnoaaRaw
import Derived.Test.YtnijlddmbemnoaaGaps
import Derived.Test.YtnijlddmbemnoaaSame
namespace Go.Proofs.Ytnijlddmbemnoaa
open Go.RowKit

theorem lays_k {C : Nat → Cl} {m c : Nat} (hC : ∀ j, j < m → rgB (C j) = true) (hc : c < m) {len : Int} (h : (0 ≤ len ∧ len ≤ 30 ∧ (C c).kind = 2) ∨ len = 0) : shW C m (1 + (c : Int)) len ≤ 32 := by
  unfold shW
  by_cases hE : shE C m (1 + (c : Int)) len = 0
  · rw [if_pos hE]
    unfold shR shD
    rw [if_pos hE, if_pos hE, show (1 + (c : Int) - 1).toNat = c by omega]
    have hr := hC c hc
    rcases h with ⟨h1, h2, h3⟩ | h
    · unfold rgB at hr
      rw [if_neg (by omega), if_pos h3] at hr
      simp at hr
      omega
    · obtain ⟨o1, o2, o3, o4, o5⟩ := rgB_ok hr
      omega
  · rw [if_neg hE]; omega
/-- What the words are behind the two Lays. -/
structure LaysF (g : Nat → Int) (m : Nat) (C : Nat → Cl) (p r d k : Int) : Prop where
  obj : ∃ hd : Hd, hd.cls ≠ 0 ∧ atT 400 g m C (1 + p) = (⟨hd, r, d, k⟩, 0)
  zero : ∀ j : Int, 2 ≤ j → j < k → g (1 + p + j).toNat = 0
  same : ∀ j : Nat, (j : Int) < k → g ((1 + p).toNat + j) = g ((300 : Int).toNat + j)
  before : g (1 + p - 1).toNat = -7
  behind : g (1 + p + 2 + r + d).toNat = -7
theorem lays_slE {g : Nat → Int} {m : Nat} {C : Nat → Cl} {p r d k : Int} (h : LaysF g m C p r d k) : objP (atT 400 g m C (1 + p)) = atT 400 g m C (1 + p) ∧ (atT 400 g m C (1 + p)).2 = 0 ∧ (atT 400 g m C (1 + p)).1.refs = r ∧ (atT 400 g m C (1 + p)).1.data = d := by
  obtain ⟨hd, h1, h2⟩ := h.obj
  rw [h2]
  exact ⟨objP_same (fun hh => h1 hh.2), rfl, rfl, rfl⟩
theorem lays_ref {g : Nat → Int} {m : Nat} {C : Nat → Cl} {p r d k : Int} (h : LaysF g m C p r d k) {w : World} {ba bw bt : Nat} {A : Option Addr} {cap : Nat} (hS : St w ba bw 400 g bt A m cap C) (i : Int) (h0 : 0 ≤ i) (h1 : i < r)
    (hk : k = 2 + r + d := by exact HKK.out) (d0 : 0 ≤ d := by omega) :
    Calls Try.prog 18 #[.agg #[.pointer (some ⟨ba, 0, none⟩), .pointer (some ⟨bt, 0, none⟩)], .int .i64 (1 + p), .int .i64 i] w fun e w' => e = .returned (.tuple #[.int .i64 0, .int .i64 0]) ∧ Keeps w w' := by
  have hr := ref_any ba bw 400 g bt A m cap C w hS (1 + p) i
  obtain ⟨e1, e2, e3, e4⟩ := lays_slE h
  have hE : slE (objP (atT 400 g m C (1 + p))) (objP (atT 400 g m C (1 + p))).1.refs i = 0 := slE_zero.2 ⟨by rw [e1]; exact e2, h0, by rw [e1, e3]; exact h1⟩
  rw [if_pos hE, hE, show refAt (1 + p) i = 1 + p + (2 + i) by unfold refAt; omega, h.zero (2 + i) (by omega) (by omega)] at hr
  exact hr
theorem lays_num {g : Nat → Int} {m : Nat} {C : Nat → Cl} {p r d k : Int} (h : LaysF g m C p r d k) {w : World} {ba bw bt : Nat} {A : Option Addr} {cap : Nat} (hS : St w ba bw 400 g bt A m cap C) (i : Int) (h0 : 0 ≤ i) (h1 : i < d)
    (hk : k = 2 + r + d := by exact HKK.out) (r0 : 0 ≤ r := by omega) :
    Calls Try.prog 19 #[.agg #[.pointer (some ⟨ba, 0, none⟩), .pointer (some ⟨bt, 0, none⟩)], .int .i64 (1 + p), .int .i64 i] w fun e w' => e = .returned (.tuple #[.int .i64 0, .int .i64 0]) ∧ Keeps w w' := by
  have hr := num_any ba bw 400 g bt A m cap C w hS (1 + p) i
  obtain ⟨e1, e2, e3, e4⟩ := lays_slE h
  have hE : slE (objP (atT 400 g m C (1 + p))) (objP (atT 400 g m C (1 + p))).1.data i = 0 := slE_zero.2 ⟨by rw [e1]; exact e2, h0, by rw [e1, e4]; exact h1⟩
  rw [if_pos hE, hE, show numAt (objP (atT 400 g m C (1 + p))) (1 + p) i = 1 + p + (2 + r + i) by unfold numAt; rw [e1, e3]; omega, h.zero (2 + r + i) (by omega) (by omega)] at hr
  exact hr
theorem lays_same {g : Nat → Int} {m : Nat} {C : Nat → Cl} {p r d k : Int} (h : LaysF g m C p r d k) (hk : k = 2 + r + d) :
    sameB (2 + r + d).toNat (fun j => ((List.range (2 + r + d).toNat).map fun j => g ((1 + p).toNat + j)).getD j 0) (2 + r + d).toNat (fun j => ((List.range (2 + r + d).toNat).map fun j => g ((300 : Int).toNat + j)).getD j 0) = true := by
  refine sameB_true fun i hi => ?_
  have := h.same i (by omega)
  simp [List.getD_eq_getElem?_getD, hi]
  simpa using this
theorem lays_facts {m : Nat} {C : Nat → Cl} (hC : ∀ j, j < m → (C j).ok) (hm : m < 64) {c : Nat} {len p r d k : Int} (hE : shE C m (1 + (c : Int)) len = 0)
    (hr : shR C m (1 + (c : Int)) len = r) (hd : shD C m (1 + (c : Int)) len = d) (hw : shW C m (1 + (c : Int)) len = k) (hk : k = 2 + r + d) (h32 : k ≤ 32) (r0 : 0 ≤ r) (d0 : 0 ≤ d) (p0 : 0 ≤ p) (p1 : p ≤ 255)
    {g : Nat → Int} (hg : g = layF (layF (fillF (fun _ => 0) (Int.toNat 0) (Int.toNat 400) (-7)) (1 + p) k (layW (1 + (c : Int)) (C (1 + (c : Int) - 1).toNat).fin) len) 300 k (layW (1 + (c : Int)) (C (1 + (c : Int) - 1).toNat).fin) len) : LaysF g m C p r d k := by
  have e4 : Int.toNat 400 = 400 := rfl
  have e0 : Int.toNat 0 = 0 := rfl
  have e3 : (300 : Int).toNat = 300 := rfl
  have hf : ∀ j : Nat, j < 400 → fillF (fun _ => 0) (Int.toNat 0) (Int.toNat 400) (-7) j = -7 := fun j hj => by unfold fillF; rw [e4, e0, if_pos (by omega)]
  have k2 : 2 ≤ k := by omega
  have lo : ∀ j : Nat, (j : Int) < 300 → g j = layF (fillF (fun _ => 0) (Int.toNat 0) (Int.toNat 400) (-7)) (1 + p) k (layW (1 + (c : Int)) (C (1 + (c : Int) - 1).toNat).fin) len j := fun j hj => by
    rw [hg]; exact layF_out (by omega) k2 (.inl hj)
  refine ⟨⟨⟨1 + c, 0, 0, false, (C (1 + (c : Int) - 1).toNat).fin, false⟩, by show (1 + (c : Int)) ≠ 0; omega, ?_⟩, fun j h1 h2 => ?_, fun j hj => ?_, ?_, ?_⟩
  · have h1 : g (1 + p).toNat = layW (1 + (c : Int)) (C (1 + (c : Int) - 1).toNat).fin := by rw [lo _ (by omega)]; exact layF_at (by omega)
    have h2 : g (1 + p + 1).toNat = len := by rw [lo _ (by omega)]; exact layF_len
    have := atT_laid (n := 400) hC hm hE (by rw [hw]; exact thB_true.2 ⟨by omega, by omega, by omega, by omega⟩) h1 h2
    rw [this, hr, hd, hw]
  · rw [lo _ (by omega)]; exact layF_in (by omega) (by omega) (by omega)
  · rw [lo _ (by omega), e3, hg]
    rcases (by omega : j = 0 ∨ j = 1 ∨ 2 ≤ j) with rfl | rfl | h
    · have a1 := layF_at (f := fillF (fun _ => 0) (Int.toNat 0) (Int.toNat 400) (-7)) (a := 1 + p) (k := k) (W := layW (1 + (c : Int)) (C (1 + (c : Int) - 1).toNat).fin) (len := len) (by omega)
      have a2 := layF_at (f := layF (fillF (fun _ => 0) (Int.toNat 0) (Int.toNat 400) (-7)) (1 + p) k (layW (1 + (c : Int)) (C (1 + (c : Int) - 1).toNat).fin) len) (a := 300) (k := k) (W := layW (1 + (c : Int)) (C (1 + (c : Int) - 1).toNat).fin) (len := len) (by omega)
      rw [Nat.add_zero, Nat.add_zero, a1]; exact a2.symm
    · have a1 := layF_len (f := fillF (fun _ => 0) (Int.toNat 0) (Int.toNat 400) (-7)) (a := 1 + p) (k := k) (W := layW (1 + (c : Int)) (C (1 + (c : Int) - 1).toNat).fin) (len := len)
      have a2 := layF_len (f := layF (fillF (fun _ => 0) (Int.toNat 0) (Int.toNat 400) (-7)) (1 + p) k (layW (1 + (c : Int)) (C (1 + (c : Int) - 1).toNat).fin) len) (a := 300) (k := k) (W := layW (1 + (c : Int)) (C (1 + (c : Int) - 1).toNat).fin) (len := len)
      rw [show (1 + p).toNat + 1 = (1 + p + 1).toNat by omega, a1]; exact a2.symm
    · rw [layF_in (by omega) (by omega) (by omega), layF_in (by omega) (by omega) (by omega)]
  · rw [lo _ (by omega), layF_out (by omega) k2 (.inl (by omega))]; exact hf _ (by omega)
  · rw [lo _ (by omega), layF_out (by omega) k2 (.inr (by omega))]; exact hf _ (by omega)
theorem lays_e {C : Nat → Cl} {m c : Nat} (hC : ∀ j, j < m → rgB (C j) = true) (hc : c < m) {len : Int} (h : (0 ≤ len ∧ len ≤ 30 ∧ (C c).kind = 2) ∨ len = 0) : shE C m (1 + (c : Int)) len = 0 := by
  unfold shE
  rw [if_neg (by omega), show (1 + (c : Int) - 1).toNat = c by omega]
  rcases h with ⟨h1, h2, h3⟩ | h
  · rw [if_neg (by rintro (h | ⟨_, h⟩); omega; exact h h3), if_neg (by omega)]
  · subst h
    rw [if_neg (by omega), if_neg (by omega)]

set_option maxRecDepth 100000 in
set_option maxHeartbeats 2000000 in
theorem olays_full (w : World) (A : Option Addr) (m cap : Nat) (hA : A = none → m = 0 ∧ cap = 0) (C : Nat → Cl) (hr : Rd w A (m * 4) (clF C)) (x y p : Int) (hx : 0 ≤ x ∧ x ≤ 255) (hy : 0 ≤ y ∧ y ≤ 255) (hp : 0 ≤ p ∧ p ≤ 255) (hn : 100 < m) : Calls Try.prog 4 #[.slice A m cap, .int .u8 x, .int .u8 y, .int .u8 p] w fun e w' => e = .returned (.bool true) ∧ Keeps w w' := by
  have HB := Lib.hid (fun w' (k : Keeps w w') => both_full A m cap hA C 400 (by omega) w' (hr.keep k) hn)
  clear hr hA hn
  have hz1 := zero_st
  have hz2 := zero_rst
  go_enter Try.func4, Try.ntmps4
  go_wp2_with fail
  have K0 := Touch.refl (fun _ => False) w
  refine Calls.mono (awake_any _) ?_
  rintro e w1 ⟨rfl, kw1⟩
  have Kw1 := Keeps.trans K0 kw1
  have zw1 := kw1.size
  clear K0 kw1
  go_wp2_with fail
  refine Calls.mono (HB.out _ Kw1) ?_
  rintro e w2 ⟨rfl, kw2⟩
  have Kw2 := Keeps.trans Kw1 kw2
  have zw2 := kw2.size
  clear Kw1 kw2
  go_wp2_with fail
  go_ret
  exact ⟨rfl, ((Kw2.alloc _).alloc _)⟩

set_option maxRecDepth 100000 in
set_option maxHeartbeats 2000000 in
theorem olays_bad (w : World) (A : Option Addr) (m cap : Nat) (hA : A = none → m = 0 ∧ cap = 0) (C : Nat → Cl) (hr : Rd w A (m * 4) (clF C)) (x y p : Int) (hx : 0 ≤ x ∧ x ≤ 255) (hy : 0 ≤ y ∧ y ≤ 255) (hp : 0 ≤ p ∧ p ≤ 255) (hn : m ≤ 100 ∧ newE C m ≠ 0) : Calls Try.prog 4 #[.slice A m cap, .int .u8 x, .int .u8 y, .int .u8 p] w fun e w' => e = .returned (.bool true) ∧ Keeps w w' := by
  have HB := Lib.hid (fun w' (k : Keeps w w') => both_bad A m cap hA C 400 (by omega) w' (hr.keep k) hn)
  clear hr hA hn
  have hz1 := zero_st
  have hz2 := zero_rst
  go_enter Try.func4, Try.ntmps4
  go_wp2_with fail
  have K0 := Touch.refl (fun _ => False) w
  refine Calls.mono (awake_any _) ?_
  rintro e w1 ⟨rfl, kw1⟩
  have Kw1 := Keeps.trans K0 kw1
  have zw1 := kw1.size
  clear K0 kw1
  go_wp2_with fail
  refine Calls.mono (HB.out _ Kw1) ?_
  rintro e w2 ⟨rfl, kw2⟩
  have Kw2 := Keeps.trans Kw1 kw2
  have zw2 := kw2.size
  clear Kw1 kw2
  go_wp2_with fail
  go_ret
  exact ⟨rfl, ((Kw2.alloc _).alloc _)⟩

set_option maxRecDepth 100000 in
set_option maxHeartbeats 2000000 in
theorem olays_zero (w : World) (A : Option Addr) (m cap : Nat) (hA : A = none → m = 0 ∧ cap = 0) (C : Nat → Cl) (hr : Rd w A (m * 4) (clF C)) (x y p : Int) (hx : 0 ≤ x ∧ x ≤ 255) (hy : 0 ≤ y ∧ y ≤ 255) (hp : 0 ≤ p ∧ p ≤ 255) (hn : m = 0) : Calls Try.prog 4 #[.slice A m cap, .int .u8 x, .int .u8 y, .int .u8 p] w fun e w' => e = .returned (.bool true) ∧ Keeps w w' := by
  subst hn
  have HB := Lib.hid (fun w' (k : Keeps w w') => both_yes A 0 cap hA C 400 (by omega) w' (hr.keep k) (by omega) (newE_zero.2 ⟨fun j h => by omega, by omega⟩))
  clear hr hA
  unfold stV at HB
  have hz1 := zero_st
  have hz2 := zero_rst
  go_enter Try.func4, Try.ntmps4
  go_wp2_with fail
  have K0 := Touch.refl (fun _ => False) w
  refine Calls.mono (awake_any _) ?_
  rintro e w1 ⟨rfl, kw1⟩
  have Kw1 := Keeps.trans K0 kw1
  have zw1 := kw1.size
  clear K0 kw1
  go_wp2_with fail
  refine Calls.mono (HB.out _ Kw1) ?_
  rintro e wa ⟨ba, bw, bt, A', cap', ra, rw', rfl, hS, hRA, hRW, n1, n2, n3, n4, n5, n6, k1⟩
  have Kwa := Keeps.trans Kw1 k1
  have zwa := k1.size
  clear Kw1
  clear hS hRA hRW k1
  go_wp2_with fail
  go_ret
  exact ⟨rfl, ((Kwa.alloc _).alloc _)⟩

set_option maxRecDepth 100000 in
set_option maxHeartbeats 4000000 in
theorem olays_arr (w : World) (A : Option Addr) (m cap : Nat) (hA : A = none → m = 0 ∧ cap = 0) (C : Nat → Cl) (hr : Rd w A (m * 4) (clF C)) (x y p : Int) (hx : 0 ≤ x ∧ x ≤ 255) (hy : 0 ≤ y ∧ y ≤ 255) (hp : 0 ≤ p ∧ p ≤ 255) (hm : 0 < m) (hE : newE C m = 0) (h100 : m ≤ 100) (hk : (C (x % m).toNat).kind = 2) : Calls Try.prog 4 #[.slice A m cap, .int .u8 x, .int .u8 y, .int .u8 p] w fun e w' => e = .returned (.bool true) ∧ Keeps w w' := by
  obtain ⟨x0, x1⟩ := hx
  obtain ⟨y0, y1⟩ := hy
  obtain ⟨p0, p1⟩ := hp
  obtain ⟨hCr, h64⟩ := newE_zero.1 hE
  have HB := Lib.hid (fun w' (k : Keeps w w') => both_yes A m cap hA C 400 (by omega) w' (hr.keep k) h100 hE)
  have HCl := Lib.hid (fun w' (k : Keeps w w') (j : Nat) (hj : j < m) => cl_cells (hr.keep k) hj)
  have HSh := Lib.hid (fun w' (k : Keeps w w') a len => rshape_any A m cap C w' (hr.keep k) (fun j hj => rgB_ok (hCr j hj)) (by omega) a len)
  have hmm := Int.emod_nonneg x (show (m : Int) ≠ 0 by omega)
  have hml := Int.emod_lt_of_pos x (show (0 : Int) < m by omega)
  have hne : ((m : Int) == 0) = false := by simp; omega
  obtain ⟨c, hc⟩ : ∃ c : Nat, x % (m : Int) = c := ⟨(x % m).toNat, by omega⟩
  have hcm : c < m := by omega
  have hCok := Lib.hid (fun j hj => rgB_ok (hCr j hj))
  have HE1 := Lib.hid (show shE C m (1 + (c : Int)) (y % 31) = 0 from lays_e hCr hcm (.inl ⟨by omega, by omega, by rw [show c = (x % m).toNat by omega]; exact hk⟩))
  have hk' : (C c).kind = 2 := by rw [show c = (x % m).toNat by omega]; exact hk
  have HK32 := Lib.hid (lays_k hCr hcm (.inl ⟨by omega, by omega, by rw [show c = (x % m).toNat by omega]; exact hk⟩ : (0 ≤ y % 31 ∧ y % 31 ≤ 30 ∧ (C c).kind = 2) ∨ y % 31 = 0))
  clear hr hA hE hCr hk
  unfold stV at HB
  have hkb : ((C c).kind == 2) = true := by simpa using hk'
  clear hk'
  have hz1 := zero_st
  have hz2 := zero_rst
  clear hmm hml
  go_enter Try.func4, Try.ntmps4
  go_wp2_with fail
  have K0 := Touch.refl (fun _ => False) w
  refine Calls.mono (awake_any _) ?_
  rintro e w1 ⟨rfl, kw1⟩
  have Kw1 := Keeps.trans K0 kw1
  have zw1 := kw1.size
  clear K0 kw1
  go_wp2_with fail
  refine Calls.mono (HB.out _ Kw1) ?_
  rintro e wa ⟨ba, bw, bt, A', cap', ra, rw', rfl, hS, hRA, hRW, n1, n2, n3, n4, n5, n6, k1⟩
  have Kwa := Keeps.trans Kw1 k1
  have zwa := k1.size
  clear Kw1
  have hbw0 : w.heap.size ≤ bw := by omega
  have hbwl := hS.ar.lt2
  have HCa := HCl.out _ Kwa c hcm
  obtain ⟨cb, co, rfl, c0, _, _, _⟩ := HCa
  have hcb : cb < wa.heap.size := block_lt_of_cell c0
  clear hRA hRW k1
  go_wp2_with fail
  refine named (fun W2 hW2 => ?_)
  have KW2 : Keeps w W2 := by rw [hW2]; exact ((Kwa.alloc _).alloc _)
  have BW2_S : BL W2 (wa.heap.size) 26 [.pointer (some ⟨ba, 0, none⟩), .pointer (some ⟨bt, 0, none⟩)] := by rw [hW2]; exact (BL.alloc (BL.new1 _ _ _ [.pointer (some ⟨ba, 0, none⟩), .pointer (some ⟨bt, 0, none⟩)] _ (by simp) rfl) _)
  have BW2_R : BL W2 (wa.heap.size + 1) 41 [.pointer (some ⟨ra, 0, none⟩), .slice (some ⟨cb, co, none⟩) m cap] := by rw [hW2]; exact (BL.new1 _ _ _ [.pointer (some ⟨ra, 0, none⟩), .slice (some ⟨cb, co, none⟩) m cap] _ (by simp) rfl)
  have zW2 : wa.heap.size + 2 ≤ W2.heap.size := by rw [hW2]; simp
  have SW2 := St.keep hS (show Keeps wa W2 by rw [hW2]; exact (((Touch.refl _ _).alloc _).alloc _))
  clear hS Kwa hW2
  have l3 := BW2_S.lt
  have l4 := BW2_R.lt
  clear c0 hcb hkb
  refine Calls.mono (HSh.out _ KW2 _ _) ?_
  rintro e w5 ⟨rfl, kw5⟩
  have Kw5 := Keeps.trans KW2 kw5
  have Bw5_S := BL.keep BW2_S kw5
  have Bw5_R := BL.keep BW2_R kw5
  have zw5 := kw5.size
  have Sw5 := St.keep SW2 kw5
  clear l3 l4 SW2 BW2_S BW2_R KW2 kw5
  have l6 := Bw5_S.lt
  have l7 := Bw5_R.lt
  have c8 : w5.cell? ⟨wa.heap.size, 0, none⟩ = some (.pointer (some ⟨ba, 0, none⟩)) := Bw5_S.c 0 _ rfl
  have c9 : w5.cell? ⟨wa.heap.size, 1, none⟩ = some (.pointer (some ⟨bt, 0, none⟩)) := Bw5_S.c 1 _ rfl
  rw [HE1.out]
  obtain ⟨r0, r1, d0, d1⟩ := sh_bd hCok.out HE1.out
  have hk32 := HK32.out
  generalize hl : (y % 31) = len at *
  have HLen := Lib.hid hl
  clear hl
  have HW0 := Lib.hid (show shW C m (1 + (c : Int)) len = 2 + shR C m (1 + (c : Int)) len + shD C m (1 + (c : Int)) len by unfold shW; rw [if_pos HE1.out])
  generalize hr : shR C m (1 + (c : Int)) len = r at *
  generalize hd : shD C m (1 + (c : Int)) len = d at *
  have HR := Lib.hid hr
  have HD := Lib.hid hd
  clear hr hd HSh HB HCl
  generalize hw : shW C m (1 + (c : Int)) len = k at *
  have HWk := Lib.hid hw
  clear hw
  rw [HW0.out] at hk32
  have hkk : k = 2 + r + d := HW0.out
  have HKK := Lib.hid hkk
  clear hkk
  go_wp2_with fail
  refine Calls.mono (fill_at ba bw 400 _ _ Sw5.ar 0 400 (by omega) (by omega) (by omega) (-7)) ?_
  rintro e w10 ⟨rfl, aw10, ow10⟩
  have Kw10 := Keeps.new Kw5 ow10 (by have := hbw0; omega)
  have Sw10 := St.only Sw5 aw10 ow10
  have Bw10_S := BL.touch Bw5_S ow10 (by show ¬ (wa.heap.size = bw); omega)
  have Bw10_R := BL.touch Bw5_R ow10 (by show ¬ (wa.heap.size + 1 = bw); omega)
  have zw10 := ow10.size
  clear l6 l7 c8 c9 Bw5_S Bw5_R Kw5 ow10 aw10 Sw5
  have l11 := Bw10_S.lt
  have l12 := Bw10_R.lt
  have c13 : w10.cell? ⟨wa.heap.size, 0, none⟩ = some (.pointer (some ⟨ba, 0, none⟩)) := Bw10_S.c 0 _ rfl
  have c14 : w10.cell? ⟨wa.heap.size, 1, none⟩ = some (.pointer (some ⟨bt, 0, none⟩)) := Bw10_S.c 1 _ rfl
  go_wp2_with fail
  refine Calls.mono (lay_yes ba bw 400 _ bt A' m cap' C _ Sw10 (1 + p) (1 + c) len HE1.out (by rw [HWk.out, HKK.out]; exact thB_true.2 ⟨by omega, by omega, by omega, by omega⟩)) ?_
  rintro e w15 ⟨rfl, Sw15, ow15⟩
  have Kw15 := Keeps.new Kw10 ow15 (by have := hbw0; omega)
  have Bw15_S := BL.touch Bw10_S ow15 (by show ¬ (wa.heap.size = bw); omega)
  have Bw15_R := BL.touch Bw10_R ow15 (by show ¬ (wa.heap.size + 1 = bw); omega)
  have zw15 := ow15.size
  clear l11 l12 c13 c14 Bw10_S Bw10_R Kw10 ow15 Sw10
  have l16 := Bw15_S.lt
  have l17 := Bw15_R.lt
  have c18 : w15.cell? ⟨wa.heap.size, 0, none⟩ = some (.pointer (some ⟨ba, 0, none⟩)) := Bw15_S.c 0 _ rfl
  have c19 : w15.cell? ⟨wa.heap.size, 1, none⟩ = some (.pointer (some ⟨bt, 0, none⟩)) := Bw15_S.c 1 _ rfl
  go_wp2_with fail
  refine Calls.mono (lay_yes ba bw 400 _ bt A' m cap' C _ Sw15 300 (1 + c) len HE1.out (by rw [HWk.out, HKK.out]; exact thB_true.2 ⟨by omega, by omega, by omega, by omega⟩)) ?_
  rintro e w20 ⟨rfl, Sw20, ow20⟩
  have Kw20 := Keeps.new Kw15 ow20 (by have := hbw0; omega)
  have Bw20_S := BL.touch Bw15_S ow20 (by show ¬ (wa.heap.size = bw); omega)
  have Bw20_R := BL.touch Bw15_R ow20 (by show ¬ (wa.heap.size + 1 = bw); omega)
  have zw20 := ow20.size
  clear l16 l17 c18 c19 Bw15_S Bw15_R Kw15 ow20 Sw15
  have l21 := Bw20_S.lt
  have l22 := Bw20_R.lt
  have c23 : w20.cell? ⟨wa.heap.size, 0, none⟩ = some (.pointer (some ⟨ba, 0, none⟩)) := Bw20_S.c 0 _ rfl
  have c24 : w20.cell? ⟨wa.heap.size, 1, none⟩ = some (.pointer (some ⟨bt, 0, none⟩)) := Bw20_S.c 1 _ rfl
  rw [HWk.out] at Sw20
  have HLF := Lib.hid (lays_facts (m := m) (C := C) hCok.out h64 HE1.out HR.out HD.out HWk.out HKK.out (by rw [HKK.out]; omega) (by omega) (by omega) (by omega) (by omega) rfl : LaysF _ m C p r d k)
  generalize layF (layF (fillF (fun _ => 0) (Int.toNat 0) (Int.toNat 400) (-7)) (1 + p) k (layW (1 + c) (C (1 + (c : Int) - 1).toNat).fin) len) 300 k (layW (1 + c) (C (1 + (c : Int) - 1).toNat).fin) len = g at *
  go_wp2_with fail
  go_loopw [96] (fun i wr => ∃ q : Nat, (q : Int) ≤ r ∧ i = .int .i64 q ∧ Keeps w20 wr) (fun i _ => (r - intOf i).toNat)
  case atStart => exact ⟨0, by omega, rfl, Touch.refl _ _⟩
  case round =>
    obtain ⟨wr96, rfl⟩ : ∃ wo : World, wo = wr := ⟨_, rfl⟩
    obtain ⟨q96, hq, rfl, kr⟩ := hrel
    have Kwr96 := Keeps.trans Kw20 kr
    have Bwr96_S := BL.keep Bw20_S kr
    have Bwr96_R := BL.keep Bw20_R kr
    have Swr96 := St.keep Sw20 kr
    have zwr96 := kr.size
    clear l21 l22 c23 c24 Bw20_S Bw20_R
    by_cases hlt : (q96 : Int) < r
    ·
      have l25 := Bwr96_S.lt
      have l26 := Bwr96_R.lt
      have c27 : wr96.cell? ⟨wa.heap.size, 0, none⟩ = some (.pointer (some ⟨ba, 0, none⟩)) := Bwr96_S.c 0 _ rfl
      have c28 : wr96.cell? ⟨wa.heap.size, 1, none⟩ = some (.pointer (some ⟨bt, 0, none⟩)) := Bwr96_S.c 1 _ rfl
      go_wp2_with fail
      refine Calls.mono (lays_ref HLF.out Swr96 _ (by omega) hlt) ?_
      rintro e wq ⟨rfl, kq⟩
      have Kwq := Keeps.trans Kwr96 kq
      have Bwq_S := BL.keep Bwr96_S kq
      have Bwq_R := BL.keep Bwr96_R kq
      have zwq := kq.size
      have Swq := St.keep Swr96 kq
      clear l25 l26 c27 c28 Swr96 Bwr96_S Bwr96_R Kwr96
      have l29 := Bwq_S.lt
      have l30 := Bwq_R.lt
      go_wp2_with fail
      go_roundw
      case rel => exact ⟨q96 + 1, by omega, by go_num, Keeps.trans kr kq⟩
      case measure => simp [intOf]; omega
    ·
      have hge96 : r ≤ (q96 : Int) := by omega
      clear hlt kr hq
      have l31 := Bwr96_S.lt
      have l32 := Bwr96_R.lt
      go_wp2_with fail
      go_loopw [114] (fun i wr => ∃ q : Nat, (q : Int) ≤ d ∧ i = .int .i64 q ∧ Keeps wr96 wr) (fun i _ => (d - intOf i).toNat)
      case atStart => exact ⟨0, by omega, rfl, Touch.refl _ _⟩
      case round =>
        obtain ⟨wr114, rfl⟩ : ∃ wo : World, wo = wr := ⟨_, rfl⟩
        obtain ⟨q114, hq, rfl, kr⟩ := hrel
        have Kwr114 := Keeps.trans Kwr96 kr
        have Bwr114_S := BL.keep Bwr96_S kr
        have Bwr114_R := BL.keep Bwr96_R kr
        have Swr114 := St.keep Swr96 kr
        have zwr114 := kr.size
        clear l31 l32 Bwr96_S Bwr96_R
        by_cases hlt : (q114 : Int) < d
        ·
          have l33 := Bwr114_S.lt
          have l34 := Bwr114_R.lt
          have c35 : wr114.cell? ⟨wa.heap.size, 0, none⟩ = some (.pointer (some ⟨ba, 0, none⟩)) := Bwr114_S.c 0 _ rfl
          have c36 : wr114.cell? ⟨wa.heap.size, 1, none⟩ = some (.pointer (some ⟨bt, 0, none⟩)) := Bwr114_S.c 1 _ rfl
          go_wp2_with fail
          refine Calls.mono (lays_num HLF.out Swr114 _ (by omega) hlt) ?_
          rintro e wq ⟨rfl, kq⟩
          have Kwq := Keeps.trans Kwr114 kq
          have Bwq_S := BL.keep Bwr114_S kq
          have Bwq_R := BL.keep Bwr114_R kq
          have zwq := kq.size
          have Swq := St.keep Swr114 kq
          clear l33 l34 c35 c36 Swr114 Bwr114_S Bwr114_R Kwr114
          have l37 := Bwq_S.lt
          have l38 := Bwq_R.lt
          go_wp2_with fail
          go_roundw
          case rel => exact ⟨q114 + 1, by omega, by go_num, Keeps.trans kr kq⟩
          case measure => simp [intOf]; omega
        ·
          have hge114 : d ≤ (q114 : Int) := by omega
          clear hlt kr hq
          have l39 := Bwr114_S.lt
          have l40 := Bwr114_R.lt
          clear l39 l40
          have l41 := Bwr114_S.lt
          have l42 := Bwr114_R.lt
          have c43 : wr114.cell? ⟨wa.heap.size, 0, none⟩ = some (.pointer (some ⟨ba, 0, none⟩)) := Bwr114_S.c 0 _ rfl
          have c44 : wr114.cell? ⟨wa.heap.size, 1, none⟩ = some (.pointer (some ⟨bt, 0, none⟩)) := Bwr114_S.c 1 _ rfl
          have hwr1 : IntKind.i64.wrap (2 + r) = 2 + r := IntWalk.i64_in _ ⟨by omega, by omega⟩
          have hwr2 : IntKind.i64.wrap (2 + r + d) = 2 + r + d := IntWalk.i64_in _ ⟨by omega, by omega⟩
          go_wp2_with fail
          refine Calls.mono (words_yes ba bw 400 g _ Swr114.ar (1 + p) (2 + r + d) (by omega) (by omega) (by omega)) ?_
          rintro e wx ⟨v1, rfl, hO1, k1⟩
          have Kwx := Keeps.trans Kwr114 k1
          have Bwx_S := BL.keep Bwr114_S k1
          have Bwx_R := BL.keep Bwr114_R k1
          have zwx := k1.size
          have Swx := St.keep Swr114 k1
          clear l41 l42 c43 c44 Swr114 Bwr114_S Bwr114_R Kwr114
          have l45 := Bwx_S.lt
          have l46 := Bwx_R.lt
          have HO1 := Lib.hid hO1
          clear hO1 k1
          go_wp2_with fail
          refine Calls.mono (words_yes ba bw 400 g _ Swx.ar 300 (2 + r + d) (by omega) (by omega) (by omega)) ?_
          rintro e wy ⟨v2, rfl, hO2, k2⟩
          have Kwy := Keeps.trans Kwx k2
          have Bwy_S := BL.keep Bwx_S k2
          have Bwy_R := BL.keep Bwx_R k2
          have zwy := k2.size
          have Swy := St.keep Swx k2
          clear l45 l46 Swx Bwx_S Bwx_R Kwx
          have l47 := Bwy_S.lt
          have l48 := Bwy_R.lt
          have HO2 := Lib.hid hO2
          have HO1b := Lib.hid (HO1.out.keep k2)
          clear hO2 HO1 k2
          go_wp2_with fail
          have hL1 := load_at ba bw 400 g _ Swy.ar (1 + p - 1) (by omega) (by omega)
          rw [HLF.out.before] at hL1
          refine Calls.mono hL1 ?_
          rintro e wz ⟨rfl, rfl⟩
          clear hL1
          go_wp2_with fail
          have hL2 := load_at ba bw 400 g _ Swy.ar (1 + p + 2 + r + d) (by omega) (by omega)
          rw [HLF.out.behind] at hL2
          refine Calls.mono hL2 ?_
          rintro e wz ⟨rfl, rfl⟩
          clear hL2
          go_wp2_with fail
          have hlen : ∀ F : Nat → Int, ((List.range (2 + r + d).toNat).map F).length = (2 + r + d).toNat := fun F => by simp
          obtain ⟨ad1, cp1, e1⟩ := HO1b.out.form
          obtain ⟨ad2, cp2, e2⟩ := HO2.out.form
          have R1 := (show OwnInts _ _ (.slice ad1 _ cp1) _ from e1 ▸ HO1b.out).rd.1
          have R2 := (show OwnInts _ _ (.slice ad2 _ cp2) _ from e2 ▸ HO2.out).rd.1
          rw [hlen] at R1 R2 e1 e2
          subst e1
          subst e2
          have HSm := Lib.hid (same_any ad1 ad2 _ _ cp1 cp2 _ _ _ R1 R2 (by omega) (by omega))
          have HT := Lib.hid (lays_same HLF.out HKK.out)
          clear R1 R2 hlen
          rw [HT.out] at HSm
          go_wp2_with fail
          refine Calls.mono (HSm.out) ?_
          rintro e w49 ⟨rfl, kw49⟩
          have Kw49 := Keeps.trans Kwy kw49
          have Bw49_S := BL.keep Bwy_S kw49
          have Bw49_R := BL.keep Bwy_R kw49
          have zw49 := kw49.size
          have Sw49 := St.keep Swy kw49
          clear l47 l48 Swy Bwy_S Bwy_R Kwy kw49
          have l50 := Bw49_S.lt
          have l51 := Bw49_R.lt
          go_wp2_with fail
          go_ret
          exact ⟨rfl, Kw49⟩

set_option maxRecDepth 100000 in
set_option maxHeartbeats 4000000 in
theorem olays_obj (w : World) (A : Option Addr) (m cap : Nat) (hA : A = none → m = 0 ∧ cap = 0) (C : Nat → Cl) (hr : Rd w A (m * 4) (clF C)) (x y p : Int) (hx : 0 ≤ x ∧ x ≤ 255) (hy : 0 ≤ y ∧ y ≤ 255) (hp : 0 ≤ p ∧ p ≤ 255) (hm : 0 < m) (hE : newE C m = 0) (h100 : m ≤ 100) (hk : (C (x % m).toNat).kind ≠ 2) : Calls Try.prog 4 #[.slice A m cap, .int .u8 x, .int .u8 y, .int .u8 p] w fun e w' => e = .returned (.bool true) ∧ Keeps w w' := by
  obtain ⟨x0, x1⟩ := hx
  obtain ⟨y0, y1⟩ := hy
  obtain ⟨p0, p1⟩ := hp
  obtain ⟨hCr, h64⟩ := newE_zero.1 hE
  have HB := Lib.hid (fun w' (k : Keeps w w') => both_yes A m cap hA C 400 (by omega) w' (hr.keep k) h100 hE)
  have HCl := Lib.hid (fun w' (k : Keeps w w') (j : Nat) (hj : j < m) => cl_cells (hr.keep k) hj)
  have HSh := Lib.hid (fun w' (k : Keeps w w') a len => rshape_any A m cap C w' (hr.keep k) (fun j hj => rgB_ok (hCr j hj)) (by omega) a len)
  have hmm := Int.emod_nonneg x (show (m : Int) ≠ 0 by omega)
  have hml := Int.emod_lt_of_pos x (show (0 : Int) < m by omega)
  have hne : ((m : Int) == 0) = false := by simp; omega
  obtain ⟨c, hc⟩ : ∃ c : Nat, x % (m : Int) = c := ⟨(x % m).toNat, by omega⟩
  have hcm : c < m := by omega
  have hCok := Lib.hid (fun j hj => rgB_ok (hCr j hj))
  have HE1 := Lib.hid (show shE C m (1 + (c : Int)) 0 = 0 from lays_e hCr hcm (.inr rfl))
  have hk' : (C c).kind ≠ 2 := by rw [show c = (x % m).toNat by omega]; exact hk
  have HK32 := Lib.hid (lays_k hCr hcm (.inr rfl : (0 ≤ (0 : Int) ∧ (0 : Int) ≤ 30 ∧ (C c).kind = 2) ∨ (0 : Int) = 0))
  clear hr hA hE hCr hk
  unfold stV at HB
  have hkb : ((C c).kind == 2) = false := by simpa using hk'
  clear hk'
  have hz1 := zero_st
  have hz2 := zero_rst
  clear hmm hml
  go_enter Try.func4, Try.ntmps4
  go_wp2_with fail
  have K0 := Touch.refl (fun _ => False) w
  refine Calls.mono (awake_any _) ?_
  rintro e w1 ⟨rfl, kw1⟩
  have Kw1 := Keeps.trans K0 kw1
  have zw1 := kw1.size
  clear K0 kw1
  go_wp2_with fail
  refine Calls.mono (HB.out _ Kw1) ?_
  rintro e wa ⟨ba, bw, bt, A', cap', ra, rw', rfl, hS, hRA, hRW, n1, n2, n3, n4, n5, n6, k1⟩
  have Kwa := Keeps.trans Kw1 k1
  have zwa := k1.size
  clear Kw1
  have hbw0 : w.heap.size ≤ bw := by omega
  have hbwl := hS.ar.lt2
  have HCa := HCl.out _ Kwa c hcm
  obtain ⟨cb, co, rfl, c0, _, _, _⟩ := HCa
  have hcb : cb < wa.heap.size := block_lt_of_cell c0
  clear hRA hRW k1
  go_wp2_with fail
  refine named (fun W2 hW2 => ?_)
  have KW2 : Keeps w W2 := by rw [hW2]; exact ((Kwa.alloc _).alloc _)
  have BW2_S : BL W2 (wa.heap.size) 26 [.pointer (some ⟨ba, 0, none⟩), .pointer (some ⟨bt, 0, none⟩)] := by rw [hW2]; exact (BL.alloc (BL.new1 _ _ _ [.pointer (some ⟨ba, 0, none⟩), .pointer (some ⟨bt, 0, none⟩)] _ (by simp) rfl) _)
  have BW2_R : BL W2 (wa.heap.size + 1) 41 [.pointer (some ⟨ra, 0, none⟩), .slice (some ⟨cb, co, none⟩) m cap] := by rw [hW2]; exact (BL.new1 _ _ _ [.pointer (some ⟨ra, 0, none⟩), .slice (some ⟨cb, co, none⟩) m cap] _ (by simp) rfl)
  have zW2 : wa.heap.size + 2 ≤ W2.heap.size := by rw [hW2]; simp
  have SW2 := St.keep hS (show Keeps wa W2 by rw [hW2]; exact (((Touch.refl _ _).alloc _).alloc _))
  clear hS Kwa hW2
  have l3 := BW2_S.lt
  have l4 := BW2_R.lt
  clear c0 hcb hkb
  refine Calls.mono (HSh.out _ KW2 _ _) ?_
  rintro e w5 ⟨rfl, kw5⟩
  have Kw5 := Keeps.trans KW2 kw5
  have Bw5_S := BL.keep BW2_S kw5
  have Bw5_R := BL.keep BW2_R kw5
  have zw5 := kw5.size
  have Sw5 := St.keep SW2 kw5
  clear l3 l4 SW2 BW2_S BW2_R KW2 kw5
  have l6 := Bw5_S.lt
  have l7 := Bw5_R.lt
  have c8 : w5.cell? ⟨wa.heap.size, 0, none⟩ = some (.pointer (some ⟨ba, 0, none⟩)) := Bw5_S.c 0 _ rfl
  have c9 : w5.cell? ⟨wa.heap.size, 1, none⟩ = some (.pointer (some ⟨bt, 0, none⟩)) := Bw5_S.c 1 _ rfl
  rw [HE1.out]
  obtain ⟨r0, r1, d0, d1⟩ := sh_bd hCok.out HE1.out
  have hk32 := HK32.out
  have HW0 := Lib.hid (show shW C m (1 + (c : Int)) 0 = 2 + shR C m (1 + (c : Int)) 0 + shD C m (1 + (c : Int)) 0 by unfold shW; rw [if_pos HE1.out])
  generalize hr : shR C m (1 + (c : Int)) 0 = r at *
  generalize hd : shD C m (1 + (c : Int)) 0 = d at *
  have HR := Lib.hid hr
  have HD := Lib.hid hd
  clear hr hd HSh HB HCl
  generalize hw : shW C m (1 + (c : Int)) 0 = k at *
  have HWk := Lib.hid hw
  clear hw
  rw [HW0.out] at hk32
  have hkk : k = 2 + r + d := HW0.out
  have HKK := Lib.hid hkk
  clear hkk
  go_wp2_with fail
  refine Calls.mono (fill_at ba bw 400 _ _ Sw5.ar 0 400 (by omega) (by omega) (by omega) (-7)) ?_
  rintro e w10 ⟨rfl, aw10, ow10⟩
  have Kw10 := Keeps.new Kw5 ow10 (by have := hbw0; omega)
  have Sw10 := St.only Sw5 aw10 ow10
  have Bw10_S := BL.touch Bw5_S ow10 (by show ¬ (wa.heap.size = bw); omega)
  have Bw10_R := BL.touch Bw5_R ow10 (by show ¬ (wa.heap.size + 1 = bw); omega)
  have zw10 := ow10.size
  clear l6 l7 c8 c9 Bw5_S Bw5_R Kw5 ow10 aw10 Sw5
  have l11 := Bw10_S.lt
  have l12 := Bw10_R.lt
  have c13 : w10.cell? ⟨wa.heap.size, 0, none⟩ = some (.pointer (some ⟨ba, 0, none⟩)) := Bw10_S.c 0 _ rfl
  have c14 : w10.cell? ⟨wa.heap.size, 1, none⟩ = some (.pointer (some ⟨bt, 0, none⟩)) := Bw10_S.c 1 _ rfl
  go_wp2_with fail
  refine Calls.mono (lay_yes ba bw 400 _ bt A' m cap' C _ Sw10 (1 + p) (1 + c) 0 HE1.out (by rw [HWk.out, HKK.out]; exact thB_true.2 ⟨by omega, by omega, by omega, by omega⟩)) ?_
  rintro e w15 ⟨rfl, Sw15, ow15⟩
  have Kw15 := Keeps.new Kw10 ow15 (by have := hbw0; omega)
  have Bw15_S := BL.touch Bw10_S ow15 (by show ¬ (wa.heap.size = bw); omega)
  have Bw15_R := BL.touch Bw10_R ow15 (by show ¬ (wa.heap.size + 1 = bw); omega)
  have zw15 := ow15.size
  clear l11 l12 c13 c14 Bw10_S Bw10_R Kw10 ow15 Sw10
  have l16 := Bw15_S.lt
  have l17 := Bw15_R.lt
  have c18 : w15.cell? ⟨wa.heap.size, 0, none⟩ = some (.pointer (some ⟨ba, 0, none⟩)) := Bw15_S.c 0 _ rfl
  have c19 : w15.cell? ⟨wa.heap.size, 1, none⟩ = some (.pointer (some ⟨bt, 0, none⟩)) := Bw15_S.c 1 _ rfl
  go_wp2_with fail
  refine Calls.mono (lay_yes ba bw 400 _ bt A' m cap' C _ Sw15 300 (1 + c) 0 HE1.out (by rw [HWk.out, HKK.out]; exact thB_true.2 ⟨by omega, by omega, by omega, by omega⟩)) ?_
  rintro e w20 ⟨rfl, Sw20, ow20⟩
  have Kw20 := Keeps.new Kw15 ow20 (by have := hbw0; omega)
  have Bw20_S := BL.touch Bw15_S ow20 (by show ¬ (wa.heap.size = bw); omega)
  have Bw20_R := BL.touch Bw15_R ow20 (by show ¬ (wa.heap.size + 1 = bw); omega)
  have zw20 := ow20.size
  clear l16 l17 c18 c19 Bw15_S Bw15_R Kw15 ow20 Sw15
  have l21 := Bw20_S.lt
  have l22 := Bw20_R.lt
  have c23 : w20.cell? ⟨wa.heap.size, 0, none⟩ = some (.pointer (some ⟨ba, 0, none⟩)) := Bw20_S.c 0 _ rfl
  have c24 : w20.cell? ⟨wa.heap.size, 1, none⟩ = some (.pointer (some ⟨bt, 0, none⟩)) := Bw20_S.c 1 _ rfl
  rw [HWk.out] at Sw20
  have HLF := Lib.hid (lays_facts (m := m) (C := C) hCok.out h64 HE1.out HR.out HD.out HWk.out HKK.out (by rw [HKK.out]; omega) (by omega) (by omega) (by omega) (by omega) rfl : LaysF _ m C p r d k)
  generalize layF (layF (fillF (fun _ => 0) (Int.toNat 0) (Int.toNat 400) (-7)) (1 + p) k (layW (1 + c) (C (1 + (c : Int) - 1).toNat).fin) 0) 300 k (layW (1 + c) (C (1 + (c : Int) - 1).toNat).fin) 0 = g at *
  go_wp2_with fail
  go_loopw [96] (fun i wr => ∃ q : Nat, (q : Int) ≤ r ∧ i = .int .i64 q ∧ Keeps w20 wr) (fun i _ => (r - intOf i).toNat)
  case atStart => exact ⟨0, by omega, rfl, Touch.refl _ _⟩
  case round =>
    obtain ⟨wr96, rfl⟩ : ∃ wo : World, wo = wr := ⟨_, rfl⟩
    obtain ⟨q96, hq, rfl, kr⟩ := hrel
    have Kwr96 := Keeps.trans Kw20 kr
    have Bwr96_S := BL.keep Bw20_S kr
    have Bwr96_R := BL.keep Bw20_R kr
    have Swr96 := St.keep Sw20 kr
    have zwr96 := kr.size
    clear l21 l22 c23 c24 Bw20_S Bw20_R
    by_cases hlt : (q96 : Int) < r
    ·
      have l25 := Bwr96_S.lt
      have l26 := Bwr96_R.lt
      have c27 : wr96.cell? ⟨wa.heap.size, 0, none⟩ = some (.pointer (some ⟨ba, 0, none⟩)) := Bwr96_S.c 0 _ rfl
      have c28 : wr96.cell? ⟨wa.heap.size, 1, none⟩ = some (.pointer (some ⟨bt, 0, none⟩)) := Bwr96_S.c 1 _ rfl
      go_wp2_with fail
      refine Calls.mono (lays_ref HLF.out Swr96 _ (by omega) hlt) ?_
      rintro e wq ⟨rfl, kq⟩
      have Kwq := Keeps.trans Kwr96 kq
      have Bwq_S := BL.keep Bwr96_S kq
      have Bwq_R := BL.keep Bwr96_R kq
      have zwq := kq.size
      have Swq := St.keep Swr96 kq
      clear l25 l26 c27 c28 Swr96 Bwr96_S Bwr96_R Kwr96
      have l29 := Bwq_S.lt
      have l30 := Bwq_R.lt
      go_wp2_with fail
      go_roundw
      case rel => exact ⟨q96 + 1, by omega, by go_num, Keeps.trans kr kq⟩
      case measure => simp [intOf]; omega
    ·
      have hge96 : r ≤ (q96 : Int) := by omega
      clear hlt kr hq
      have l31 := Bwr96_S.lt
      have l32 := Bwr96_R.lt
      go_wp2_with fail
      go_loopw [114] (fun i wr => ∃ q : Nat, (q : Int) ≤ d ∧ i = .int .i64 q ∧ Keeps wr96 wr) (fun i _ => (d - intOf i).toNat)
      case atStart => exact ⟨0, by omega, rfl, Touch.refl _ _⟩
      case round =>
        obtain ⟨wr114, rfl⟩ : ∃ wo : World, wo = wr := ⟨_, rfl⟩
        obtain ⟨q114, hq, rfl, kr⟩ := hrel
        have Kwr114 := Keeps.trans Kwr96 kr
        have Bwr114_S := BL.keep Bwr96_S kr
        have Bwr114_R := BL.keep Bwr96_R kr
        have Swr114 := St.keep Swr96 kr
        have zwr114 := kr.size
        clear l31 l32 Bwr96_S Bwr96_R
        by_cases hlt : (q114 : Int) < d
        ·
          have l33 := Bwr114_S.lt
          have l34 := Bwr114_R.lt
          have c35 : wr114.cell? ⟨wa.heap.size, 0, none⟩ = some (.pointer (some ⟨ba, 0, none⟩)) := Bwr114_S.c 0 _ rfl
          have c36 : wr114.cell? ⟨wa.heap.size, 1, none⟩ = some (.pointer (some ⟨bt, 0, none⟩)) := Bwr114_S.c 1 _ rfl
          go_wp2_with fail
          refine Calls.mono (lays_num HLF.out Swr114 _ (by omega) hlt) ?_
          rintro e wq ⟨rfl, kq⟩
          have Kwq := Keeps.trans Kwr114 kq
          have Bwq_S := BL.keep Bwr114_S kq
          have Bwq_R := BL.keep Bwr114_R kq
          have zwq := kq.size
          have Swq := St.keep Swr114 kq
          clear l33 l34 c35 c36 Swr114 Bwr114_S Bwr114_R Kwr114
          have l37 := Bwq_S.lt
          have l38 := Bwq_R.lt
          go_wp2_with fail
          go_roundw
          case rel => exact ⟨q114 + 1, by omega, by go_num, Keeps.trans kr kq⟩
          case measure => simp [intOf]; omega
        ·
          have hge114 : d ≤ (q114 : Int) := by omega
          clear hlt kr hq
          have l39 := Bwr114_S.lt
          have l40 := Bwr114_R.lt
          clear l39 l40
          have l41 := Bwr114_S.lt
          have l42 := Bwr114_R.lt
          have c43 : wr114.cell? ⟨wa.heap.size, 0, none⟩ = some (.pointer (some ⟨ba, 0, none⟩)) := Bwr114_S.c 0 _ rfl
          have c44 : wr114.cell? ⟨wa.heap.size, 1, none⟩ = some (.pointer (some ⟨bt, 0, none⟩)) := Bwr114_S.c 1 _ rfl
          have hwr1 : IntKind.i64.wrap (2 + r) = 2 + r := IntWalk.i64_in _ ⟨by omega, by omega⟩
          have hwr2 : IntKind.i64.wrap (2 + r + d) = 2 + r + d := IntWalk.i64_in _ ⟨by omega, by omega⟩
          go_wp2_with fail
          refine Calls.mono (words_yes ba bw 400 g _ Swr114.ar (1 + p) (2 + r + d) (by omega) (by omega) (by omega)) ?_
          rintro e wx ⟨v1, rfl, hO1, k1⟩
          have Kwx := Keeps.trans Kwr114 k1
          have Bwx_S := BL.keep Bwr114_S k1
          have Bwx_R := BL.keep Bwr114_R k1
          have zwx := k1.size
          have Swx := St.keep Swr114 k1
          clear l41 l42 c43 c44 Swr114 Bwr114_S Bwr114_R Kwr114
          have l45 := Bwx_S.lt
          have l46 := Bwx_R.lt
          have HO1 := Lib.hid hO1
          clear hO1 k1
          go_wp2_with fail
          refine Calls.mono (words_yes ba bw 400 g _ Swx.ar 300 (2 + r + d) (by omega) (by omega) (by omega)) ?_
          rintro e wy ⟨v2, rfl, hO2, k2⟩
          have Kwy := Keeps.trans Kwx k2
          have Bwy_S := BL.keep Bwx_S k2
          have Bwy_R := BL.keep Bwx_R k2
          have zwy := k2.size
          have Swy := St.keep Swx k2
          clear l45 l46 Swx Bwx_S Bwx_R Kwx
          have l47 := Bwy_S.lt
          have l48 := Bwy_R.lt
          have HO2 := Lib.hid hO2
          have HO1b := Lib.hid (HO1.out.keep k2)
          clear hO2 HO1 k2
          go_wp2_with fail
          have hL1 := load_at ba bw 400 g _ Swy.ar (1 + p - 1) (by omega) (by omega)
          rw [HLF.out.before] at hL1
          refine Calls.mono hL1 ?_
          rintro e wz ⟨rfl, rfl⟩
          clear hL1
          go_wp2_with fail
          have hL2 := load_at ba bw 400 g _ Swy.ar (1 + p + 2 + r + d) (by omega) (by omega)
          rw [HLF.out.behind] at hL2
          refine Calls.mono hL2 ?_
          rintro e wz ⟨rfl, rfl⟩
          clear hL2
          go_wp2_with fail
          have hlen : ∀ F : Nat → Int, ((List.range (2 + r + d).toNat).map F).length = (2 + r + d).toNat := fun F => by simp
          obtain ⟨ad1, cp1, e1⟩ := HO1b.out.form
          obtain ⟨ad2, cp2, e2⟩ := HO2.out.form
          have R1 := (show OwnInts _ _ (.slice ad1 _ cp1) _ from e1 ▸ HO1b.out).rd.1
          have R2 := (show OwnInts _ _ (.slice ad2 _ cp2) _ from e2 ▸ HO2.out).rd.1
          rw [hlen] at R1 R2 e1 e2
          subst e1
          subst e2
          have HSm := Lib.hid (same_any ad1 ad2 _ _ cp1 cp2 _ _ _ R1 R2 (by omega) (by omega))
          have HT := Lib.hid (lays_same HLF.out HKK.out)
          clear R1 R2 hlen
          rw [HT.out] at HSm
          go_wp2_with fail
          refine Calls.mono (HSm.out) ?_
          rintro e w49 ⟨rfl, kw49⟩
          have Kw49 := Keeps.trans Kwy kw49
          have Bw49_S := BL.keep Bwy_S kw49
          have Bw49_R := BL.keep Bwy_R kw49
          have zw49 := kw49.size
          have Sw49 := St.keep Swy kw49
          clear l47 l48 Swy Bwy_S Bwy_R Kwy kw49
          have l50 := Bw49_S.lt
          have l51 := Bw49_R.lt
          go_wp2_with fail
          go_ret
          exact ⟨rfl, Kw49⟩

theorem olays_walk (w : World) (A : Option Addr) (m cap : Nat) (hA : A = none → m = 0 ∧ cap = 0) (C : Nat → Cl) (hr : Rd w A (m * 4) (clF C)) (x y p : Int) (hx : 0 ≤ x ∧ x ≤ 255) (hy : 0 ≤ y ∧ y ≤ 255) (hp : 0 ≤ p ∧ p ≤ 255) : Calls Try.prog 4 #[.slice A m cap, .int .u8 x, .int .u8 y, .int .u8 p] w fun e w' => e = .returned (.bool true) ∧ Keeps w w' := by
  by_cases h1 : 100 < m
  · exact olays_full w A m cap hA C hr x y p hx hy hp h1
  · by_cases h2 : newE C m = 0
    · by_cases h3 : m = 0
      · exact olays_zero w A m cap hA C hr x y p hx hy hp h3
      · by_cases h4 : (C (x % m).toNat).kind = 2
        · exact olays_arr w A m cap hA C hr x y p hx hy hp (by omega) h2 (by omega) h4
        · exact olays_obj w A m cap hA C hr x y p hx hy hp (by omega) h2 (by omega) h4
    · exact olays_bad w A m cap hA C hr x y p hx hy hp ⟨by omega, h2⟩


end Go.Proofs.Ytnijlddmbemnoaa
