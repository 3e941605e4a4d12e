/- Layer 16, slide: what Run asks of all spaces, of all that stays, of all roots. -/
import Derived.Test.YtkjgfblkbjlohaaGreatG30
set_option linter.all false

namespace Go.Proofs.YtkjgfblkbjlohaaGreat
open Go.RowKit

theorem run_endf (ar : Array Value) (w : World) : (callFunc 30 ar).run Tryz.prog w = .ok (.enter 30 ar) w := by kernel_rfl
set_option maxHeartbeats 1000000 in
theorem ix_endf (pa : Nat) (A : Option Addr) (n cap : Nat) (Z : Nat → Sp) (w : World) (hr : Rd w A (n * 3) (spF Z)) (hn : n ≤ 1000000) (P : Nat → Prop)
    (hc : ∀ i, i < n → ∀ w', Keeps w w' → Calls Tryz.prog 30 #[agg (Z i), .pointer (some ⟨pa, 0, none⟩)] w' (Tells (P i) w')) :
    Calls Tryz.prog 70 #[.slice A n cap, .func (.func 30) #[] #[.pointer (some ⟨pa, 0, none⟩)]] w fun e w' => ∃ i : Int, e = .returned (.int .i64 i) ∧ (0 ≤ i ↔ ∃ j, j < n ∧ P j) ∧ Keeps w w' := by
  have hcall := run_endf
  have HC := Lib.hid hc
  clear hc
  go_enter Tryz.func70, Tryz.ntmps70
  go_wp2_with fail
  go_loopw [8] (fun i wr => ∃ k : Nat, k ≤ n ∧ i = .int .i64 k ∧ (∀ j, j < k → ¬ P j) ∧ Keeps w wr) (fun i _ => n - (intOf i).toNat)
  case atStart => exact ⟨0, Nat.zero_le _, rfl, fun j h => by omega, Touch.refl _ _⟩
  case round =>
    obtain ⟨k, hk, rfl, hall, K⟩ := hrel
    have HA := Lib.hid hall
    clear hall
    by_cases hlt : k < n
    · obtain ⟨b, off, rfl, d0, d1, d2⟩ := (hr.keep K).sp hlt
      have HC1 := Lib.hid (HC.out k hlt _ K)
      unfold agg at HC1
      go_wp2_with fail
      refine Calls.mono HC1.out ?_
      rintro e w1 ⟨b1, rfl, hb, k1⟩
      cases b1 with
      | true =>
        have HB := Lib.hid (hb.1 rfl)
        clear hb
        go_wp2_with fail
        go_ret
        exact ⟨k, rfl, ⟨fun _ => ⟨k, hlt, HB.out⟩, fun _ => by omega⟩, Keeps.trans K k1⟩
      | false =>
        have HB := Lib.hid (show ¬ P k from fun hp => by have := hb.2 hp; cases this)
        clear hb
        go_wp2_with fail
        go_roundw
        case rel => exact ⟨k + 1, by omega, by go_num, fun j h => by
          rcases (by omega : j < k ∨ j = k) with h' | rfl
          · exact HA.out j h'
          · exact HB.out, Keeps.trans K k1⟩
        case measure => simp [intOf]; omega
    · have HE : k = n := by omega
      go_wp2_with fail
      go_ret
      exact ⟨-1, rfl, ⟨fun h => by omega, fun ⟨j, h1, h2⟩ => absurd h2 (HA.out j (by omega))⟩, K⟩
theorem has_endf (pa : Nat) (A : Option Addr) (n cap : Nat) (Z : Nat → Sp) (w : World) (hr : Rd w A (n * 3) (spF Z)) (hn : n ≤ 1000000) (P : Nat → Prop)
    (hc : ∀ i, i < n → ∀ w', Keeps w w' → Calls Tryz.prog 30 #[agg (Z i), .pointer (some ⟨pa, 0, none⟩)] w' (Tells (P i) w')) :
    Calls Tryz.prog 29 #[.slice A n cap, .func (.func 30) #[] #[.pointer (some ⟨pa, 0, none⟩)]] w (Tells (∃ j, j < n ∧ P j) w) := by
  have HI := Lib.hid (ix_endf pa A n cap Z w hr hn P hc)
  clear hc
  go_enter Tryz.func29, Tryz.ntmps29
  go_wp2_with fail
  refine Calls.mono HI.out ?_
  rintro e w1 ⟨i, rfl, hi, k1⟩
  have HII := Lib.hid hi
  clear hi
  go_wp2_with fail
  go_ret
  exact ⟨decide (0 ≤ i), rfl, by rw [decide_eq_true_iff]; exact HII.out, k1⟩
theorem run_lostf (ar : Array Value) (w : World) : (callFunc 34 ar).run Tryz.prog w = .ok (.enter 34 ar) w := by kernel_rfl
set_option maxHeartbeats 1000000 in
theorem ix_lostf (pa : Nat) (A : Option Addr) (n cap : Nat) (Z : Nat → Int) (w : World) (hr : Rd w A n (intF .i64 Z)) (hn : n ≤ 1000000) (P : Nat → Prop)
    (hc : ∀ i, i < n → ∀ w', Keeps w w' → Calls Tryz.prog 34 #[.pointer (some ⟨pa, 0, none⟩), .int .i64 (Z i)] w' (Tells (P i) w')) :
    Calls Tryz.prog 73 #[.slice A n cap, .func (.func 34) #[.pointer (some ⟨pa, 0, none⟩)] #[]] w fun e w' => ∃ i : Int, e = .returned (.int .i64 i) ∧ (0 ≤ i ↔ ∃ j, j < n ∧ P j) ∧ Keeps w w' := by
  have hcall := run_lostf
  have HC := Lib.hid hc
  clear hc
  go_enter Tryz.func73, Tryz.ntmps73
  go_wp2_with fail
  go_loopw [8] (fun i wr => ∃ k : Nat, k ≤ n ∧ i = .int .i64 k ∧ (∀ j, j < k → ¬ P j) ∧ Keeps w wr) (fun i _ => n - (intOf i).toNat)
  case atStart => exact ⟨0, Nat.zero_le _, rfl, fun j h => by omega, Touch.refl _ _⟩
  case round =>
    obtain ⟨k, hk, rfl, hall, K⟩ := hrel
    have HA := Lib.hid hall
    clear hall
    by_cases hlt : k < n
    · obtain ⟨b, off, rfl, c1⟩ := (hr.keep K).one hlt
      have c2 : wr.cell? ⟨b, off + k, none⟩ = some (.int .i64 (Z k)) := c1
      clear c1
      have HC1 := Lib.hid (HC.out k hlt _ K)
      go_wp2_with fail
      refine Calls.mono HC1.out ?_
      rintro e w1 ⟨b1, rfl, hb, k1⟩
      cases b1 with
      | true =>
        have HB := Lib.hid (hb.1 rfl)
        clear hb
        go_wp2_with fail
        go_ret
        exact ⟨k, rfl, ⟨fun _ => ⟨k, hlt, HB.out⟩, fun _ => by omega⟩, Keeps.trans K k1⟩
      | false =>
        have HB := Lib.hid (show ¬ P k from fun hp => by have := hb.2 hp; cases this)
        clear hb
        go_wp2_with fail
        go_roundw
        case rel => exact ⟨k + 1, by omega, by go_num, fun j h => by
          rcases (by omega : j < k ∨ j = k) with h' | rfl
          · exact HA.out j h'
          · exact HB.out, Keeps.trans K k1⟩
        case measure => simp [intOf]; omega
    · have HE : k = n := by omega
      go_wp2_with fail
      go_ret
      exact ⟨-1, rfl, ⟨fun h => by omega, fun ⟨j, h1, h2⟩ => absurd h2 (HA.out j (by omega))⟩, K⟩
theorem has_lostf (pa : Nat) (A : Option Addr) (n cap : Nat) (Z : Nat → Int) (w : World) (hr : Rd w A n (intF .i64 Z)) (hn : n ≤ 1000000) (P : Nat → Prop)
    (hc : ∀ i, i < n → ∀ w', Keeps w w' → Calls Tryz.prog 34 #[.pointer (some ⟨pa, 0, none⟩), .int .i64 (Z i)] w' (Tells (P i) w')) :
    Calls Tryz.prog 33 #[.slice A n cap, .func (.func 34) #[.pointer (some ⟨pa, 0, none⟩)] #[]] w (Tells (∃ j, j < n ∧ P j) w) := by
  have HI := Lib.hid (ix_lostf pa A n cap Z w hr hn P hc)
  clear hc
  go_enter Tryz.func33, Tryz.ntmps33
  go_wp2_with fail
  refine Calls.mono HI.out ?_
  rintro e w1 ⟨i, rfl, hi, k1⟩
  have HII := Lib.hid hi
  clear hi
  go_wp2_with fail
  go_ret
  exact ⟨decide (0 ≤ i), rfl, by rw [decide_eq_true_iff]; exact HII.out, k1⟩
theorem run_rootf (ar : Array Value) (w : World) : (callFunc 35 ar).run Tryz.prog w = .ok (.enter 35 ar) w := by kernel_rfl
set_option maxHeartbeats 1000000 in
theorem ix_rootf (pa : Nat) (A : Option Addr) (n cap : Nat) (Z : Nat → Int) (w : World) (hr : Rd w A n (intF .i64 Z)) (hn : n ≤ 1000000) (P : Nat → Prop)
    (hc : ∀ i, i < n → ∀ w', Keeps w w' → Calls Tryz.prog 35 #[.int .i64 (Z i), .pointer (some ⟨pa, 0, none⟩)] w' (Tells (P i) w')) :
    Calls Tryz.prog 73 #[.slice A n cap, .func (.func 35) #[] #[.pointer (some ⟨pa, 0, none⟩)]] w fun e w' => ∃ i : Int, e = .returned (.int .i64 i) ∧ (0 ≤ i ↔ ∃ j, j < n ∧ P j) ∧ Keeps w w' := by
  have hcall := run_rootf
  have HC := Lib.hid hc
  clear hc
  go_enter Tryz.func73, Tryz.ntmps73
  go_wp2_with fail
  go_loopw [8] (fun i wr => ∃ k : Nat, k ≤ n ∧ i = .int .i64 k ∧ (∀ j, j < k → ¬ P j) ∧ Keeps w wr) (fun i _ => n - (intOf i).toNat)
  case atStart => exact ⟨0, Nat.zero_le _, rfl, fun j h => by omega, Touch.refl _ _⟩
  case round =>
    obtain ⟨k, hk, rfl, hall, K⟩ := hrel
    have HA := Lib.hid hall
    clear hall
    by_cases hlt : k < n
    · obtain ⟨b, off, rfl, c1⟩ := (hr.keep K).one hlt
      have c2 : wr.cell? ⟨b, off + k, none⟩ = some (.int .i64 (Z k)) := c1
      clear c1
      have HC1 := Lib.hid (HC.out k hlt _ K)
      go_wp2_with fail
      refine Calls.mono HC1.out ?_
      rintro e w1 ⟨b1, rfl, hb, k1⟩
      cases b1 with
      | true =>
        have HB := Lib.hid (hb.1 rfl)
        clear hb
        go_wp2_with fail
        go_ret
        exact ⟨k, rfl, ⟨fun _ => ⟨k, hlt, HB.out⟩, fun _ => by omega⟩, Keeps.trans K k1⟩
      | false =>
        have HB := Lib.hid (show ¬ P k from fun hp => by have := hb.2 hp; cases this)
        clear hb
        go_wp2_with fail
        go_roundw
        case rel => exact ⟨k + 1, by omega, by go_num, fun j h => by
          rcases (by omega : j < k ∨ j = k) with h' | rfl
          · exact HA.out j h'
          · exact HB.out, Keeps.trans K k1⟩
        case measure => simp [intOf]; omega
    · have HE : k = n := by omega
      go_wp2_with fail
      go_ret
      exact ⟨-1, rfl, ⟨fun h => by omega, fun ⟨j, h1, h2⟩ => absurd h2 (HA.out j (by omega))⟩, K⟩
theorem has_rootf (pa : Nat) (A : Option Addr) (n cap : Nat) (Z : Nat → Int) (w : World) (hr : Rd w A n (intF .i64 Z)) (hn : n ≤ 1000000) (P : Nat → Prop)
    (hc : ∀ i, i < n → ∀ w', Keeps w w' → Calls Tryz.prog 35 #[.int .i64 (Z i), .pointer (some ⟨pa, 0, none⟩)] w' (Tells (P i) w')) :
    Calls Tryz.prog 33 #[.slice A n cap, .func (.func 35) #[] #[.pointer (some ⟨pa, 0, none⟩)]] w (Tells (∃ j, j < n ∧ P j) w) := by
  have HI := Lib.hid (ix_rootf pa A n cap Z w hr hn P hc)
  clear hc
  go_enter Tryz.func33, Tryz.ntmps33
  go_wp2_with fail
  refine Calls.mono HI.out ?_
  rintro e w1 ⟨i, rfl, hi, k1⟩
  have HII := Lib.hid hi
  clear hi
  go_wp2_with fail
  go_ret
  exact ⟨decide (0 ≤ i), rfl, by rw [decide_eq_true_iff]; exact HII.out, k1⟩

end Go.Proofs.YtkjgfblkbjlohaaGreat
