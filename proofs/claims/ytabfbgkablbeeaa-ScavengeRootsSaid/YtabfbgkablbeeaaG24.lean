/- Layer 15, scavenge: refs, isYoung, leads. -/
import Derived.Test.YtabfbgkablbeeaaG23
import Derived.Test.YtabfbgkablbeeaaG17
import Derived.Test.YtabfbgkablbeeaaG01
import Derived.Test.YtabfbgkablbeeaaG04
import Derived.Test.YtabfbgkablbeeaaG15
import Derived.Test.YtabfbgkablbeeaaG22
set_option linter.all false

namespace Go.Proofs.Ytabfbgkablbeeaa
open Go.RowKit

theorem has_any (s : Sp) (x : Int) (w : World) : Calls Try.prog 78 #[agg s, .int .i64 x] w fun e w' => e = .returned (.bool (hasB s x)) ∧ Keeps w w' := by
  have HR := Lib.hid (right_any s)
  obtain ⟨f, t, en⟩ := s
  unfold agg at *
  dsimp only at *
  unfold hasB
  obtain ⟨B, hB⟩ : ∃ B, rightB ⟨f, t, en⟩ = B := ⟨_, rfl⟩
  rw [hB] at HR ⊢
  clear hB
  dsimp only
  cases B with
  | false =>
    go_enter Try.func78, Try.ntmps78
    go_wp2_with fail
    refine Calls.mono (HR.out _) ?_
    rintro e w1 ⟨rfl, k1⟩
    go_wp2_with fail
    go_ret
    exact ⟨rfl, Keeps.trans ((Touch.refl _ w).alloc _) k1⟩
  | true =>
    have hz : ∀ w1, Keeps (w.alloc (.cells #[.int .i64 f, .int .i64 t, .int .i64 en] 36)) w1 → w1.cell? ⟨w.heap.size, 0, none⟩ = some (.int .i64 f) ∧ w1.cell? ⟨w.heap.size, 1, none⟩ = some (.int .i64 t) := fun w1 k => by
      have B := (BL.new1 w 36 _ [.int .i64 f, .int .i64 t, .int .i64 en] _ rfl rfl).keep k
      exact ⟨B.c 0 _ rfl, B.c 1 _ rfl⟩
    have HZ := Lib.hid hz
    clear hz
    by_cases h1 : f ≤ x
    · by_cases h2 : x < t
      · rw [decide_eq_true h1, decide_eq_true h2]
        go_enter Try.func78, Try.ntmps78
        go_wp2_with fail
        refine Calls.mono (HR.out _) ?_
        rintro e w1 ⟨rfl, k1⟩
        obtain ⟨c0, c1⟩ := HZ.out w1 k1
        go_wp2_with fail
        go_ret
        exact ⟨rfl, Keeps.trans ((Touch.refl _ w).alloc _) k1⟩
      · rw [decide_eq_true h1, decide_eq_false h2]
        have h2d : decide (x < t) = false := decide_eq_false h2
        go_enter Try.func78, Try.ntmps78
        go_wp2_with fail
        refine Calls.mono (HR.out _) ?_
        rintro e w1 ⟨rfl, k1⟩
        obtain ⟨c0, c1⟩ := HZ.out w1 k1
        go_wp2_with fail
        go_ret
        exact ⟨rfl, Keeps.trans ((Touch.refl _ w).alloc _) k1⟩
    · rw [decide_eq_false h1]
      have h1d : decide (f ≤ x) = false := decide_eq_false h1
      go_enter Try.func78, Try.ntmps78
      go_wp2_with fail
      refine Calls.mono (HR.out _) ?_
      rintro e w1 ⟨rfl, k1⟩
      obtain ⟨c0, c1⟩ := HZ.out w1 k1
      go_wp2_with fail
      go_ret
      exact ⟨rfl, Keeps.trans ((Touch.refl _ w).alloc _) k1⟩

end Go.Proofs.Ytabfbgkablbeeaa

namespace Go.Proofs.Ytabfbgkablbeeaa
open Go.RowKit

theorem rfs_snoc (f : Nat → Int) (a : Int) (k : Nat) : rfs f a (k + 1) = rfs f a k ++ [f (a + 2 + (k : Int)).toNat] := by
  unfold rfs; rw [List.range_succ, List.map_append]; rfl
theorem rfs_get {f : Nat → Int} {a : Int} {r j : Nat} (h : j < r) : (rfs f a r).getD j 0 = f (a + 2 + (j : Int)).toNat := by
  unfold rfs; rw [List.getD_eq_getElem?_getD, List.getElem?_map, List.getElem?_range h]; rfl
set_option maxHeartbeats 1000000 in
theorem refs_any (ba bw n : Nat) (f : Nat → Int) (bt : Nat) (A : Option Addr) (m cap : Nat) (C : Nat → Cl) (w : World) (h : St w ba bw n f bt A m cap C) (rb : Nat)
    (c1 : w.cell? ⟨rb, 1, none⟩ = some (.pointer (some ⟨ba, 0, none⟩))) (c2 : w.cell? ⟨rb, 2, none⟩ = some (.pointer (some ⟨bt, 0, none⟩))) (a : Int) (hq : (objP (atT n f m C a)).2 = 0) :
    Calls Try.prog 54 #[.pointer (some ⟨rb, 0, none⟩), .int .i64 a] w fun e w' => ∃ v, e = .returned v ∧ OwnInts w' w.heap.size v (rfs f a (objP (atT n f m C a)).1.refs.toNat) ∧ Keeps w w' := by
  have hSt := Lib.hid h
  obtain ⟨k1, k2, k3, k4, k5, k6⟩ := obj_ok h.tb.ok hq
  have HSh := Lib.hid (fun w' (h : St w' ba bw n f bt A m cap C) => oshape_any ba bw n f bt A m cap C w' h a)
  have HRf := Lib.hid (fun w' (h : St w' ba bw n f bt A m cap C) (i : Int) (h0 : 0 ≤ i) (h1 : i < (objP (atT n f m C a)).1.refs) => ref_in ba bw n f bt A m cap C w' h a i hq h0 h1)
  have C1 := Lib.hid c1
  have C2 := Lib.hid c2
  clear h hq
  unfold stV at *
  generalize objP (atT n f m C a) = q at *
  go_enter Try.func54, Try.ntmps54
  go_wp2_with fail
  refine Calls.mono (HSh.out _ hSt.out) ?_
  rintro e w1 ⟨rfl, K1⟩
  clear c1 c2
  go_wp2_with fail
  go_loopw [8, 23] (fun v i wr => ∃ k : Nat, (k : Int) ≤ q.1.refs ∧ i = .int .i64 k ∧ OwnInts wr w.heap.size v (rfs f a k) ∧ Keeps w wr) (fun _ i _ => (q.1.refs - intOf i).toNat)
  case atStart => exact ⟨0, by omega, rfl, OwnInts.nil_ _ _, K1⟩
  case round =>
    obtain ⟨wo, rfl⟩ : ∃ wo : World, wo = wr := ⟨_, rfl⟩
    obtain ⟨k, hk, rfl, hown, K⟩ := hrel
    have HO := Lib.hid hown
    have hlo := hown.lt
    have hlen : (rfs f a k).length = k := by simp [rfs]
    have HL := Lib.hid (show (rfs f a k).length ≤ 60 by omega)
    obtain ⟨ad, cp, hv⟩ := hown.form
    rw [hlen] at hv
    subst hv
    clear hlen
    clear hown
    have zo := K.size
    by_cases hlt : (k : Int) < q.1.refs
    · have c1 := cell_keep C1.out K
      have c2 := cell_keep C2.out K
      go_wp2_with fail
      refine Calls.mono (HRf.out _ (hSt.out.keep K) _ (by omega) hlt) ?_
      rintro e w3 ⟨rfl, k3⟩
      have HO3 := Lib.hid (HO.out.keep k3)
      have K3 := Keeps.trans K k3
      have z3 := K3.size
      clear c1 c2
      generalize hx : f (refAt a k).toNat = x at *
      have HX := Lib.hid hx
      clear hx
      go_wp2_with (at_builtin; refine app_int ?_ (.tmp 36) (.tmp 38) ?_ w.heap.size (.slice ad k cp) (rfs f a k) (HO3.out.alloc _) ?_ w3.heap.size x ?_ (cell_new _ _ _ _ rfl) (by have := HL.out; omega) (by simp; omega) ?_; rfl; rfl; rfl; rfl; intro v' w10 hown' hgr hbl; have K10 := Touch.grown (K3.alloc (.cells #[.int .i64 x] 3)) hgr (fun k e h => by have := (hlo k e).1; omega); have HO10 := Lib.hid hown'; clear hgr hbl hown')
      go_roundw
      case rel => exact ⟨k + 1, by omega, by go_num, by rw [rfs_snoc, show f (a + 2 + (k : Int)).toNat = x from HX.out]; exact HO10.out, K10⟩
      case measure => simp [intOf]; omega
    · have he : (k : Int) = q.1.refs := by omega
      have hkn : q.1.refs.toNat = k := by omega
      go_wp2_with fail
      go_ret
      exact ⟨_, rfl, HO.out, K⟩
/-- The cells of a run that tell where young objects are. -/
structure YgC (w : World) (rb : Nat) (E F : Sp) : Prop where
  c6 : w.cell? ⟨rb, 6, none⟩ = some (.int .i64 E.f)
  c7 : w.cell? ⟨rb, 7, none⟩ = some (.int .i64 E.t)
  c8 : w.cell? ⟨rb, 8, none⟩ = some (.int .i64 E.e)
  c9 : w.cell? ⟨rb, 9, none⟩ = some (.int .i64 F.f)
  c10 : w.cell? ⟨rb, 10, none⟩ = some (.int .i64 F.t)
  c11 : w.cell? ⟨rb, 11, none⟩ = some (.int .i64 F.e)
theorem YgC.keep {w w' : World} {rb : Nat} {E F : Sp} (h : YgC w rb E F) (k : Keeps w w') : YgC w' rb E F := ⟨cell_keep h.c6 k, cell_keep h.c7 k, cell_keep h.c8 k, cell_keep h.c9 k, cell_keep h.c10 k, cell_keep h.c11 k⟩
theorem young_any (rb : Nat) (E F : Sp) (x : Int) (w : World) (h : YgC w rb E F) : Calls Try.prog 57 #[.pointer (some ⟨rb, 0, none⟩), .int .i64 x] w fun e w' => e = .returned (.bool (ygB E F x)) ∧ Keeps w w' := by
  have h1 := fun w => has_any E x w
  have h2 := fun w => has_any F x w
  have HY := Lib.hid h
  obtain ⟨c6, c7, c8, c9, c10, c11⟩ := h
  unfold ygB
  generalize hasB E x = b1 at *
  generalize hasB F x = b2 at *
  unfold agg at *
  have H1 := Lib.hid h1
  have H2 := Lib.hid h2
  clear h1 h2
  cases b1 with
  | true =>
    go_enter Try.func57, Try.ntmps57
    go_wp2_with fail
    refine Calls.mono (H1.out _) ?_
    rintro e w1 ⟨rfl, k1⟩
    go_wp2_with fail
    go_ret
    exact ⟨rfl, k1⟩
  | false =>
    go_enter Try.func57, Try.ntmps57
    go_wp2_with fail
    refine Calls.mono (H1.out _) ?_
    rintro e w1 ⟨rfl, k1⟩
    clear c6 c7 c8 c9 c10 c11
    obtain ⟨c6, c7, c8, c9, c10, c11⟩ := HY.out.keep k1
    go_wp2_with fail
    refine Calls.mono (H2.out _) ?_
    rintro e w2 ⟨rfl, k2⟩
    go_wp2_with fail
    go_ret
    exact ⟨by simp, Keeps.trans k1 k2⟩

theorem run_yf (ar : Array Value) (w : World) : (callFunc 57 ar).run Try.prog w = .ok (.enter 57 ar) w := by kernel_rfl
set_option maxHeartbeats 1000000 in
theorem ix_yf (rb : Nat) (A : Option Addr) (n cap : Nat) (Z : Nat → Int) (w : World) (hr : Rd w A n (intF .i64 Z)) (hn : n ≤ 1000000) (P : Nat → Prop)
    (hc : ∀ i, i < n → ∀ w', Keeps w w' → Calls Try.prog 57 #[.pointer (some ⟨rb, 0, none⟩), .int .i64 (Z i)] w' (Tells (P i) w')) :
    Calls Try.prog 77 #[.slice A n cap, .func (.func 57) #[.pointer (some ⟨rb, 0, none⟩)] #[]] w fun e w' => ∃ i : Int, e = .returned (.int .i64 i) ∧ (0 ≤ i ↔ ∃ j, j < n ∧ P j) ∧ Keeps w w' := by
  have hcall := run_yf
  have HC := Lib.hid hc
  clear hc
  go_enter Try.func77, Try.ntmps77
  go_wp2_with fail
  go_loopw [8] (fun i wr => ∃ k : Nat, k ≤ n ∧ i = .int .i64 k ∧ (∀ j, j < k → ¬ P j) ∧ Keeps w wr) (fun i _ => n - (intOf i).toNat)
  case atStart => exact ⟨0, Nat.zero_le _, rfl, fun j h => by omega, Touch.refl _ _⟩
  case round =>
    obtain ⟨k, hk, rfl, hall, K⟩ := hrel
    have HA := Lib.hid hall
    clear hall
    by_cases hlt : k < n
    · obtain ⟨b, off, rfl, c1⟩ := (hr.keep K).one hlt
      have c2 : wr.cell? ⟨b, off + k, none⟩ = some (.int .i64 (Z k)) := c1
      clear c1
      have HC1 := Lib.hid (HC.out k hlt _ K)
      go_wp2_with fail
      refine Calls.mono HC1.out ?_
      rintro e w1 ⟨b1, rfl, hb, k1⟩
      cases b1 with
      | true =>
        have HB := Lib.hid (hb.1 rfl)
        clear hb
        go_wp2_with fail
        go_ret
        exact ⟨k, rfl, ⟨fun _ => ⟨k, hlt, HB.out⟩, fun _ => by omega⟩, Keeps.trans K k1⟩
      | false =>
        have HB := Lib.hid (show ¬ P k from fun hp => by have := hb.2 hp; cases this)
        clear hb
        go_wp2_with fail
        go_roundw
        case rel => exact ⟨k + 1, by omega, by go_num, fun j h => by
          rcases (by omega : j < k ∨ j = k) with h' | rfl
          · exact HA.out j h'
          · exact HB.out, Keeps.trans K k1⟩
        case measure => simp [intOf]; omega
    · have HE : k = n := by omega
      go_wp2_with fail
      go_ret
      exact ⟨-1, rfl, ⟨fun h => by omega, fun ⟨j, h1, h2⟩ => absurd h2 (HA.out j (by omega))⟩, K⟩
theorem has_yf (rb : Nat) (A : Option Addr) (n cap : Nat) (Z : Nat → Int) (w : World) (hr : Rd w A n (intF .i64 Z)) (hn : n ≤ 1000000) (P : Nat → Prop)
    (hc : ∀ i, i < n → ∀ w', Keeps w w' → Calls Try.prog 57 #[.pointer (some ⟨rb, 0, none⟩), .int .i64 (Z i)] w' (Tells (P i) w')) :
    Calls Try.prog 52 #[.slice A n cap, .func (.func 57) #[.pointer (some ⟨rb, 0, none⟩)] #[]] w (Tells (∃ j, j < n ∧ P j) w) := by
  have HI := Lib.hid (ix_yf rb A n cap Z w hr hn P hc)
  clear hc
  go_enter Try.func52, Try.ntmps52
  go_wp2_with fail
  refine Calls.mono HI.out ?_
  rintro e w1 ⟨i, rfl, hi, k1⟩
  have HII := Lib.hid hi
  clear hi
  go_wp2_with fail
  go_ret
  exact ⟨decide (0 ≤ i), rfl, by rw [decide_eq_true_iff]; exact HII.out, k1⟩

/-- Of what lies at a, does a reference lead to what Y says? -/
def LeadsTo (n m : Nat) (C : Nat → Cl) (f : Nat → Int) (Y : Int → Bool) (a : Int) : Prop := ∃ i : Nat, (i : Int) < (objP (atT n f m C a)).1.refs ∧ Y (f (a + 2 + i).toNat) = true
set_option maxHeartbeats 1000000 in
theorem leads_any (ba bw n : Nat) (f : Nat → Int) (bt : Nat) (A : Option Addr) (m cap : Nat) (C : Nat → Cl) (w : World) (h : St w ba bw n f bt A m cap C) (rb : Nat)
    (c1 : w.cell? ⟨rb, 1, none⟩ = some (.pointer (some ⟨ba, 0, none⟩))) (c2 : w.cell? ⟨rb, 2, none⟩ = some (.pointer (some ⟨bt, 0, none⟩))) (E F : Sp) (hy : YgC w rb E F) (a : Int) (hq : (objP (atT n f m C a)).2 = 0) :
    Calls Try.prog 30 #[.pointer (some ⟨rb, 0, none⟩), .int .i64 a] w (Tells (LeadsTo n m C f (ygB E F) a) w) := by
  have HR := Lib.hid (refs_any ba bw n f bt A m cap C w h rb c1 c2 a hq)
  have hk := obj_ok h.tb.ok hq
  have hk60 : (objP (atT n f m C a)).1.refs.toNat ≤ 60 := by omega
  have HY := Lib.hid hy
  clear h c1 c2 hq hy hk
  unfold LeadsTo
  generalize objP (atT n f m C a) = q at *
  go_enter Try.func30, Try.ntmps30
  go_wp2_with fail
  refine Calls.mono HR.out ?_
  rintro e w1 ⟨v, rfl, hown, k1⟩
  obtain ⟨ad, cp, hv⟩ := hown.form
  subst hv
  have hrd := hown.rd.1
  have hlen : (rfs f a q.1.refs.toNat).length = q.1.refs.toNat := by simp [rfs]
  have HH := Lib.hid (has_yf rb ad (rfs f a q.1.refs.toNat).length cp _ w1 hrd (by omega) (fun j => ygB E F ((rfs f a q.1.refs.toNat).getD j 0) = true) (fun i hi w' k => (young_any rb E F _ w' (HY.out.keep (Keeps.trans k1 k))).mono (fun e w2 hh => ⟨_, hh.1, Iff.rfl, hh.2⟩)))
  clear hown hrd HR
  rw [hlen] at *
  go_wp2_with fail
  refine Calls.mono HH.out ?_
  rintro e w2 ⟨b, rfl, hb, k2⟩
  have HB := Lib.hid hb
  clear hb HH
  go_wp2_with fail
  go_ret
  refine ⟨b, rfl, HB.out.trans ⟨fun ⟨j, h1, h2⟩ => ?_, fun ⟨i, h1, h2⟩ => ?_⟩, Keeps.trans k1 k2⟩
  · exact ⟨j, by omega, by rw [rfs_get h1] at h2; exact h2⟩
  · exact ⟨i, by omega, by rw [rfs_get (by omega)]; exact h2⟩

end Go.Proofs.Ytabfbgkablbeeaa
