/- Layer 15, scavenge: what check asks of all roots, of all references, of all old objects. -/
import Derived.Test.YtabfbgkablbeeaaG26
import Derived.Test.YtabfbgkablbeeaaG31
set_option linter.all false

namespace Go.Proofs.Ytabfbgkablbeeaa
open Go.RowKit

theorem lost_any {w : World} {vb mb : Nat} {M : Int → Bool} {c cnt : Nat} (hS : SetIs w mb M c cnt) (hv : w.cell? ⟨vb, 0, none⟩ = some (.map (some mb))) {x : Int} (hx : I64 x) :
    Calls Try.prog 51 #[.int .i64 x, .pointer (some ⟨vb, 0, none⟩)] w (Tells (M x = false) w) := by
  have hl := hS.look hx
  clear hS hx
  go_enter Try.func51, Try.ntmps51
  go_wp2_with fail
  go_ret
  exact ⟨!(M x), rfl, by simp, Touch.refl _ _⟩
theorem SetIs.keep {w w' : World} {b : Nat} {m : Int → Bool} {c n : Nat} (h : SetIs w b m c n) (k : Keeps w w') : SetIs w' b m c n := h.touch k (fun h => h)
theorem run_lf (ar : Array Value) (w : World) : (callFunc 51 ar).run Try.prog w = .ok (.enter 51 ar) w := by kernel_rfl
set_option maxHeartbeats 1000000 in
theorem ix_lf (vb : Nat) (A : Option Addr) (n cap : Nat) (Z : Nat → Int) (w : World) (hr : Rd w A n (intF .i64 Z)) (hn : n ≤ 1000000) (P : Nat → Prop)
    (hc : ∀ i, i < n → ∀ w', Keeps w w' → Calls Try.prog 51 #[.int .i64 (Z i), .pointer (some ⟨vb, 0, none⟩)] w' (Tells (P i) w')) :
    Calls Try.prog 77 #[.slice A n cap, .func (.func 51) #[] #[.pointer (some ⟨vb, 0, none⟩)]] w fun e w' => ∃ i : Int, e = .returned (.int .i64 i) ∧ (0 ≤ i ↔ ∃ j, j < n ∧ P j) ∧ Keeps w w' := by
  have hcall := run_lf
  have HC := Lib.hid hc
  clear hc
  go_enter Try.func77, Try.ntmps77
  go_wp2_with fail
  go_loopw [8] (fun i wr => ∃ k : Nat, k ≤ n ∧ i = .int .i64 k ∧ (∀ j, j < k → ¬ P j) ∧ Keeps w wr) (fun i _ => n - (intOf i).toNat)
  case atStart => exact ⟨0, Nat.zero_le _, rfl, fun j h => by omega, Touch.refl _ _⟩
  case round =>
    obtain ⟨k, hk, rfl, hall, K⟩ := hrel
    have HA := Lib.hid hall
    clear hall
    by_cases hlt : k < n
    · obtain ⟨b, off, rfl, c1⟩ := (hr.keep K).one hlt
      have c2 : wr.cell? ⟨b, off + k, none⟩ = some (.int .i64 (Z k)) := c1
      clear c1
      have HC1 := Lib.hid (HC.out k hlt _ K)
      go_wp2_with fail
      refine Calls.mono HC1.out ?_
      rintro e w1 ⟨b1, rfl, hb, k1⟩
      cases b1 with
      | true =>
        have HB := Lib.hid (hb.1 rfl)
        clear hb
        go_wp2_with fail
        go_ret
        exact ⟨k, rfl, ⟨fun _ => ⟨k, hlt, HB.out⟩, fun _ => by omega⟩, Keeps.trans K k1⟩
      | false =>
        have HB := Lib.hid (show ¬ P k from fun hp => by have := hb.2 hp; cases this)
        clear hb
        go_wp2_with fail
        go_roundw
        case rel => exact ⟨k + 1, by omega, by go_num, fun j h => by
          rcases (by omega : j < k ∨ j = k) with h' | rfl
          · exact HA.out j h'
          · exact HB.out, Keeps.trans K k1⟩
        case measure => simp [intOf]; omega
    · have HE : k = n := by omega
      go_wp2_with fail
      go_ret
      exact ⟨-1, rfl, ⟨fun h => by omega, fun ⟨j, h1, h2⟩ => absurd h2 (HA.out j (by omega))⟩, K⟩
theorem has_lf (vb : Nat) (A : Option Addr) (n cap : Nat) (Z : Nat → Int) (w : World) (hr : Rd w A n (intF .i64 Z)) (hn : n ≤ 1000000) (P : Nat → Prop)
    (hc : ∀ i, i < n → ∀ w', Keeps w w' → Calls Try.prog 51 #[.int .i64 (Z i), .pointer (some ⟨vb, 0, none⟩)] w' (Tells (P i) w')) :
    Calls Try.prog 52 #[.slice A n cap, .func (.func 51) #[] #[.pointer (some ⟨vb, 0, none⟩)]] w (Tells (∃ j, j < n ∧ P j) w) := by
  have HI := Lib.hid (ix_lf vb A n cap Z w hr hn P hc)
  clear hc
  go_enter Try.func52, Try.ntmps52
  go_wp2_with fail
  refine Calls.mono HI.out ?_
  rintro e w1 ⟨i, rfl, hi, k1⟩
  have HII := Lib.hid hi
  clear hi
  go_wp2_with fail
  go_ret
  exact ⟨decide (0 ≤ i), rfl, by rw [decide_eq_true_iff]; exact HII.out, k1⟩

set_option maxHeartbeats 2000000 in
theorem reflost_any {w : World} {ba bw n : Nat} {f : Nat → Int} {bt : Nat} {A : Option Addr} {m cap : Nat} {C : Nat → Cl} (h : St w ba bw n f bt A m cap C) {rb b3 b4 vb mb : Nat}
    (c1 : w.cell? ⟨rb, 1, none⟩ = some (.pointer (some ⟨ba, 0, none⟩))) (c2 : w.cell? ⟨rb, 2, none⟩ = some (.pointer (some ⟨bt, 0, none⟩))) (c3 : w.cell? ⟨b3, 0, none⟩ = some (.pointer (some ⟨rb, 0, none⟩))) (c4 : w.cell? ⟨b4, 0, none⟩ = some (.func (.func 51) #[] #[.pointer (some ⟨vb, 0, none⟩)]))
    {M : Int → Bool} {c cnt : Nat} (hS : SetIs w mb M c cnt) (hv : w.cell? ⟨vb, 0, none⟩ = some (.map (some mb))) {a : Int} (hq : (objP (atT n f m C a)).2 = 0) (hI : ∀ i : Nat, (i : Int) < (objP (atT n f m C a)).1.refs → I64 (f (a + 2 + i).toNat)) :
    Calls Try.prog 53 #[.int .i64 a, .pointer (some ⟨b3, 0, none⟩), .pointer (some ⟨b4, 0, none⟩)] w (Tells (∃ i : Nat, (i : Int) < (objP (atT n f m C a)).1.refs ∧ M (f (a + 2 + i).toNat) = false) w) := by
  have hk := obj_ok h.tb.ok hq
  have hk60 : (objP (atT n f m C a)).1.refs.toNat ≤ 60 := by omega
  have hlen : (rfs f a (objP (atT n f m C a)).1.refs.toNat).length = (objP (atT n f m C a)).1.refs.toNat := by simp [rfs]
  have HR := Lib.hid (show ∀ w', Keeps w w' → Calls Try.prog 54 #[.pointer (some ⟨rb, 0, none⟩), .int .i64 a] w' fun e w2 => ∃ ad cp, e = .returned (.slice ad (objP (atT n f m C a)).1.refs.toNat cp) ∧ Rd w2 ad (objP (atT n f m C a)).1.refs.toNat (intF .i64 fun j => (rfs f a (objP (atT n f m C a)).1.refs.toNat).getD j 0) ∧ Keeps w' w2 from fun w' k =>
    (refs_any ba bw n f bt A m cap C w' (h.keep k) rb (cell_keep c1 k) (cell_keep c2 k) a hq).mono (fun e w2 ⟨v, he, ho, hk⟩ => by
      obtain ⟨ad, cp, hv⟩ := ho.form
      subst hv
      have hrd := ho.rd.1
      rw [hlen] at hrd he
      exact ⟨ad, cp, he, hrd, hk⟩))
  have HC := Lib.hid (show ∀ w' ad cp, Keeps w w' → Rd w' ad (objP (atT n f m C a)).1.refs.toNat (intF .i64 fun j => (rfs f a (objP (atT n f m C a)).1.refs.toNat).getD j 0) → Calls Try.prog 52 #[.slice ad (objP (atT n f m C a)).1.refs.toNat cp, .func (.func 51) #[] #[.pointer (some ⟨vb, 0, none⟩)]] w' (Tells (∃ i : Nat, (i : Int) < (objP (atT n f m C a)).1.refs ∧ M (f (a + 2 + i).toNat) = false) w') from fun w' ad cp k hrd =>
    (has_lf vb ad (objP (atT n f m C a)).1.refs.toNat cp (fun j => (rfs f a (objP (atT n f m C a)).1.refs.toNat).getD j 0) w' hrd (by omega) (fun j => M ((rfs f a (objP (atT n f m C a)).1.refs.toNat).getD j 0) = false) (fun i hi w2 k2 => lost_any ((hS.keep k).keep k2) (cell_keep (cell_keep hv k) k2) (by rw [rfs_get hi]; exact hI i (by omega)))).mono (fun e w2 ⟨b, he, hb, hk⟩ =>
      ⟨b, he, hb.trans ⟨fun ⟨j, h1, h2⟩ => ⟨j, by omega, by rw [rfs_get h1] at h2; exact h2⟩, fun ⟨i, h1, h2⟩ => ⟨i, by omega, by rw [rfs_get (by omega)]; exact h2⟩⟩, hk⟩))
  clear h c1 c2 hS hv hI hq hk hlen hk60
  generalize (objP (atT n f m C a)).1.refs = r at *
  generalize (∃ i : Nat, (i : Int) < r ∧ M (f (a + 2 + i).toNat) = false) = PP at *
  go_enter Try.func53, Try.ntmps53
  go_wp2_with fail
  refine wp_region_noPanic ?_
  refine wp_region_held_drew (S := (fun w' => Keeps w w')) (by kernel_rfl) (Touch.refl _ w).drew (fun hHeld => ?_)
  refine' wpAnyH_take (i := 0) ?hi0_1 ?hs0_1 ?hf0_1 ?hr0_1 ?hQ0_1 ?hy0_1 (by assumption) ?rest0_1
  case hi0_1 => simp only [List.getElem?_toArray, List.getElem?_cons_zero] <;> rfl
  case hs0_1 => kernel_rfl
  case hf0_1 => kernel_rfl
  case hr0_1 => kernel_rfl
  case hQ0_1 => exact fun _ _ _ h => h
  case hy0_1 => exact Or.inl ⟨by rfl, fun w hSw => by have q3 := cell_keep c3 hSw; have q4 := cell_keep c4 hSw; go_simp <;> (try with_reducible rfl)⟩
  simp only [Act.put, List.setIfInBounds_toArray, List.set_cons_zero, List.set_cons_succ]
  refine' wpAnyH_take (i := 1) ?hi1_1 ?hs1_1 ?hf1_1 ?hr1_1 ?hQ1_1 ?hy1_1 (by assumption) ?rest1_1
  case hi1_1 => simp only [List.getElem?_toArray, List.getElem?_cons_succ, List.getElem?_cons_zero] <;> rfl
  case hs1_1 => kernel_rfl
  case hf1_1 => kernel_rfl
  case hr1_1 => kernel_rfl
  case hQ1_1 => exact fun _ _ _ h => h
  case hy1_1 => exact Or.inl ⟨by rfl, fun w hSw => by go_simp <;> (try with_reducible rfl)⟩
  simp only [Act.put, List.setIfInBounds_toArray, List.set_cons_zero, List.set_cons_succ]
  refine' wpAnyH_take (i := 3) ?hi3_1 ?hs3_1 ?hf3_1 ?hr3_1 ?hQ3_1 ?hy3_1 (by assumption) ?rest3_1
  case hi3_1 => simp only [List.getElem?_toArray, List.getElem?_cons_succ, List.getElem?_cons_zero] <;> rfl
  case hs3_1 => kernel_rfl
  case hf3_1 => kernel_rfl
  case hr3_1 => kernel_rfl
  case hQ3_1 => exact fun _ _ _ h => h
  case hy3_1 => exact Or.inl ⟨by rfl, fun w hSw => by have q3 := cell_keep c3 hSw; have q4 := cell_keep c4 hSw; go_simp <;> (try with_reducible rfl)⟩
  simp only [Act.put, List.setIfInBounds_toArray, List.set_cons_zero, List.set_cons_succ]
  refine wpAnyH_ready (rs := [2]) (by kernel_rfl) (by simp) ?_
  refine AllReadyH.cons rfl (fun K hK => ?_) AllReadyH.nil
  go_simp
  with_reducible refine Calls.mono (HR.out _ hHeld) ?_
  rintro e w5 ⟨ad, cp, rfl, hrd, k5⟩
  have HRd := Lib.hid hrd
  clear hrd
  go_wp2_with fail
  refine hK.out _ _ (Keeps.trans hHeld k5) (fun hHeld => ?_)
  clear hK K
  refine wpAnyH_ready (rs := [4]) (by kernel_rfl) (by simp) ?_
  refine AllReadyH.cons rfl (fun K hK => ?_) AllReadyH.nil
  go_simp
  with_reducible refine Calls.mono (HC.out _ ad cp hHeld HRd.out) ?_
  rintro e w6 ⟨b6, rfl, hb6, k6⟩
  have HB := Lib.hid hb6
  clear hb6
  go_wp2_with fail
  refine hK.out _ _ (Keeps.trans hHeld k6) (fun hHeld => ?_)
  clear hK K
  refine' wpAnyH_take (i := 5) ?hi5_1 ?hs5_1 ?hf5_1 ?hr5_1 ?hQ5_1 ?hy5_1 (by assumption) ?rest5_1
  case hi5_1 => simp only [List.getElem?_toArray, List.getElem?_cons_succ, List.getElem?_cons_zero] <;> rfl
  case hs5_1 => kernel_rfl
  case hf5_1 => kernel_rfl
  case hr5_1 => kernel_rfl
  case hQ5_1 => exact fun _ _ _ h => h
  case hy5_1 => exact Or.inl ⟨by rfl, fun w hSw => by go_simp <;> (try with_reducible rfl)⟩
  simp only [Act.put, List.setIfInBounds_toArray, List.set_cons_zero, List.set_cons_succ]
  refine wpAnyH_done (by kernel_rfl) ?_ _
  refine NoPanic.normal ?_
  go_wp2_with fail
  go_ret
  exact ⟨b6, rfl, HB.out, hHeld⟩
theorem run_rf (ar : Array Value) (w : World) : (callFunc 53 ar).run Try.prog w = .ok (.enter 53 ar) w := by kernel_rfl
set_option maxHeartbeats 1000000 in
theorem ix_rf (b3 b4 : Nat) (A : Option Addr) (n cap : Nat) (Z : Nat → Int) (w : World) (hr : Rd w A n (intF .i64 Z)) (hn : n ≤ 1000000) (P : Nat → Prop)
    (hc : ∀ i, i < n → ∀ w', Keeps w w' → Calls Try.prog 53 #[.int .i64 (Z i), .pointer (some ⟨b3, 0, none⟩), .pointer (some ⟨b4, 0, none⟩)] w' (Tells (P i) w')) :
    Calls Try.prog 77 #[.slice A n cap, .func (.func 53) #[] #[.pointer (some ⟨b3, 0, none⟩), .pointer (some ⟨b4, 0, none⟩)]] w fun e w' => ∃ i : Int, e = .returned (.int .i64 i) ∧ (0 ≤ i ↔ ∃ j, j < n ∧ P j) ∧ Keeps w w' := by
  have hcall := run_rf
  have HC := Lib.hid hc
  clear hc
  go_enter Try.func77, Try.ntmps77
  go_wp2_with fail
  go_loopw [8] (fun i wr => ∃ k : Nat, k ≤ n ∧ i = .int .i64 k ∧ (∀ j, j < k → ¬ P j) ∧ Keeps w wr) (fun i _ => n - (intOf i).toNat)
  case atStart => exact ⟨0, Nat.zero_le _, rfl, fun j h => by omega, Touch.refl _ _⟩
  case round =>
    obtain ⟨k, hk, rfl, hall, K⟩ := hrel
    have HA := Lib.hid hall
    clear hall
    by_cases hlt : k < n
    · obtain ⟨b, off, rfl, c1⟩ := (hr.keep K).one hlt
      have c2 : wr.cell? ⟨b, off + k, none⟩ = some (.int .i64 (Z k)) := c1
      clear c1
      have HC1 := Lib.hid (HC.out k hlt _ K)
      go_wp2_with fail
      refine Calls.mono HC1.out ?_
      rintro e w1 ⟨b1, rfl, hb, k1⟩
      cases b1 with
      | true =>
        have HB := Lib.hid (hb.1 rfl)
        clear hb
        go_wp2_with fail
        go_ret
        exact ⟨k, rfl, ⟨fun _ => ⟨k, hlt, HB.out⟩, fun _ => by omega⟩, Keeps.trans K k1⟩
      | false =>
        have HB := Lib.hid (show ¬ P k from fun hp => by have := hb.2 hp; cases this)
        clear hb
        go_wp2_with fail
        go_roundw
        case rel => exact ⟨k + 1, by omega, by go_num, fun j h => by
          rcases (by omega : j < k ∨ j = k) with h' | rfl
          · exact HA.out j h'
          · exact HB.out, Keeps.trans K k1⟩
        case measure => simp [intOf]; omega
    · have HE : k = n := by omega
      go_wp2_with fail
      go_ret
      exact ⟨-1, rfl, ⟨fun h => by omega, fun ⟨j, h1, h2⟩ => absurd h2 (HA.out j (by omega))⟩, K⟩
theorem has_rf (b3 b4 : Nat) (A : Option Addr) (n cap : Nat) (Z : Nat → Int) (w : World) (hr : Rd w A n (intF .i64 Z)) (hn : n ≤ 1000000) (P : Nat → Prop)
    (hc : ∀ i, i < n → ∀ w', Keeps w w' → Calls Try.prog 53 #[.int .i64 (Z i), .pointer (some ⟨b3, 0, none⟩), .pointer (some ⟨b4, 0, none⟩)] w' (Tells (P i) w')) :
    Calls Try.prog 52 #[.slice A n cap, .func (.func 53) #[] #[.pointer (some ⟨b3, 0, none⟩), .pointer (some ⟨b4, 0, none⟩)]] w (Tells (∃ j, j < n ∧ P j) w) := by
  have HI := Lib.hid (ix_rf b3 b4 A n cap Z w hr hn P hc)
  clear hc
  go_enter Try.func52, Try.ntmps52
  go_wp2_with fail
  refine Calls.mono HI.out ?_
  rintro e w1 ⟨i, rfl, hi, k1⟩
  have HII := Lib.hid hi
  clear hi
  go_wp2_with fail
  go_ret
  exact ⟨decide (0 ≤ i), rfl, by rw [decide_eq_true_iff]; exact HII.out, k1⟩

set_option maxHeartbeats 2000000 in
theorem clean_any {w : World} {ba bw n : Nat} {f : Nat → Int} {bt : Nat} {A : Option Addr} {m cap : Nat} {C : Nat → Cl} (h : St w ba bw n f bt A m cap C) {rb b3 b5 : Nat}
    (c1 : w.cell? ⟨rb, 1, none⟩ = some (.pointer (some ⟨ba, 0, none⟩))) (c2 : w.cell? ⟨rb, 2, none⟩ = some (.pointer (some ⟨bt, 0, none⟩))) (E F : Sp) (hy : YgC w rb E F) (c3 : w.cell? ⟨b3, 0, none⟩ = some (.pointer (some ⟨rb, 0, none⟩))) {tb mb vb : Nat} (c5 : w.cell? ⟨b5, 0, none⟩ = some (.pointer (some ⟨tb, 0, none⟩)))
    {D : Nat → Bool} (hD : Cd w tb mb vb D) {a : Int} (hq : (objP (atT n f m C a)).2 = 0) (h1 : 1 ≤ a) (h2 : a < 401) :
    Calls Try.prog 55 #[.int .i64 a, .pointer (some ⟨b3, 0, none⟩), .pointer (some ⟨b5, 0, none⟩)] w (Tells (LeadsTo n m C f (ygB E F) a ∧ D (cardN a) = false) w) := by
  have HL := Lib.hid (leads_any ba bw n f bt A m cap C w h rb c1 c2 E F hy a hq)
  have HDt := Lib.hid (show ∀ w', Keeps w w' → Calls Try.prog 56 #[.pointer (some ⟨tb, 0, none⟩), .int .i64 a] w' fun e w2 => e = .returned (.bool (D (cardN a))) ∧ w' = w2 from fun w' k => dirty_yes (hD.keep k) a h1 h2)
  have C5 := Lib.hid c5
  generalize D (cardN a) = d at *
  generalize LeadsTo n m C f (ygB E F) a = PP at *
  clear h c1 c2 hy hD hq c5
  go_enter Try.func55, Try.ntmps55
  go_wp2_with fail
  refine Calls.mono HL.out ?_
  rintro e w1 ⟨b, rfl, hb, k1⟩
  cases b with
  | false =>
    have HB := Lib.hid (show ¬ PP from fun q => by have := hb.2 q; cases this)
    clear hb
    go_wp2_with fail
    go_ret
    exact ⟨false, rfl, ⟨fun q => (by cases q), fun q => absurd q.1 HB.out⟩, k1⟩
  | true =>
    have HB := Lib.hid (hb.1 rfl)
    clear hb
    have c5 := cell_keep C5.out k1
    go_wp2_with fail
    refine Calls.mono (HDt.out _ k1) ?_
    rintro e w2 ⟨rfl, rfl⟩
    go_wp2_with fail
    go_ret
    exact ⟨!d, by simp, by simp [HB.out], k1⟩
theorem run_cf (ar : Array Value) (w : World) : (callFunc 55 ar).run Try.prog w = .ok (.enter 55 ar) w := by kernel_rfl
set_option maxHeartbeats 1000000 in
theorem ix_cf (b3 b5 : Nat) (A : Option Addr) (n cap : Nat) (Z : Nat → Int) (w : World) (hr : Rd w A n (intF .i64 Z)) (hn : n ≤ 1000000) (P : Nat → Prop)
    (hc : ∀ i, i < n → ∀ w', Keeps w w' → Calls Try.prog 55 #[.int .i64 (Z i), .pointer (some ⟨b3, 0, none⟩), .pointer (some ⟨b5, 0, none⟩)] w' (Tells (P i) w')) :
    Calls Try.prog 77 #[.slice A n cap, .func (.func 55) #[] #[.pointer (some ⟨b3, 0, none⟩), .pointer (some ⟨b5, 0, none⟩)]] w fun e w' => ∃ i : Int, e = .returned (.int .i64 i) ∧ (0 ≤ i ↔ ∃ j, j < n ∧ P j) ∧ Keeps w w' := by
  have hcall := run_cf
  have HC := Lib.hid hc
  clear hc
  go_enter Try.func77, Try.ntmps77
  go_wp2_with fail
  go_loopw [8] (fun i wr => ∃ k : Nat, k ≤ n ∧ i = .int .i64 k ∧ (∀ j, j < k → ¬ P j) ∧ Keeps w wr) (fun i _ => n - (intOf i).toNat)
  case atStart => exact ⟨0, Nat.zero_le _, rfl, fun j h => by omega, Touch.refl _ _⟩
  case round =>
    obtain ⟨k, hk, rfl, hall, K⟩ := hrel
    have HA := Lib.hid hall
    clear hall
    by_cases hlt : k < n
    · obtain ⟨b, off, rfl, c1⟩ := (hr.keep K).one hlt
      have c2 : wr.cell? ⟨b, off + k, none⟩ = some (.int .i64 (Z k)) := c1
      clear c1
      have HC1 := Lib.hid (HC.out k hlt _ K)
      go_wp2_with fail
      refine Calls.mono HC1.out ?_
      rintro e w1 ⟨b1, rfl, hb, k1⟩
      cases b1 with
      | true =>
        have HB := Lib.hid (hb.1 rfl)
        clear hb
        go_wp2_with fail
        go_ret
        exact ⟨k, rfl, ⟨fun _ => ⟨k, hlt, HB.out⟩, fun _ => by omega⟩, Keeps.trans K k1⟩
      | false =>
        have HB := Lib.hid (show ¬ P k from fun hp => by have := hb.2 hp; cases this)
        clear hb
        go_wp2_with fail
        go_roundw
        case rel => exact ⟨k + 1, by omega, by go_num, fun j h => by
          rcases (by omega : j < k ∨ j = k) with h' | rfl
          · exact HA.out j h'
          · exact HB.out, Keeps.trans K k1⟩
        case measure => simp [intOf]; omega
    · have HE : k = n := by omega
      go_wp2_with fail
      go_ret
      exact ⟨-1, rfl, ⟨fun h => by omega, fun ⟨j, h1, h2⟩ => absurd h2 (HA.out j (by omega))⟩, K⟩
theorem has_cf (b3 b5 : Nat) (A : Option Addr) (n cap : Nat) (Z : Nat → Int) (w : World) (hr : Rd w A n (intF .i64 Z)) (hn : n ≤ 1000000) (P : Nat → Prop)
    (hc : ∀ i, i < n → ∀ w', Keeps w w' → Calls Try.prog 55 #[.int .i64 (Z i), .pointer (some ⟨b3, 0, none⟩), .pointer (some ⟨b5, 0, none⟩)] w' (Tells (P i) w')) :
    Calls Try.prog 52 #[.slice A n cap, .func (.func 55) #[] #[.pointer (some ⟨b3, 0, none⟩), .pointer (some ⟨b5, 0, none⟩)]] w (Tells (∃ j, j < n ∧ P j) w) := by
  have HI := Lib.hid (ix_cf b3 b5 A n cap Z w hr hn P hc)
  clear hc
  go_enter Try.func52, Try.ntmps52
  go_wp2_with fail
  refine Calls.mono HI.out ?_
  rintro e w1 ⟨i, rfl, hi, k1⟩
  have HII := Lib.hid hi
  clear hi
  go_wp2_with fail
  go_ret
  exact ⟨decide (0 ≤ i), rfl, by rw [decide_eq_true_iff]; exact HII.out, k1⟩

end Go.Proofs.Ytabfbgkablbeeaa
