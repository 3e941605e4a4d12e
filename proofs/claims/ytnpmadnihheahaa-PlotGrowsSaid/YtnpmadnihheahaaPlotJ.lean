/- The reference's Same; the law PlotDraws: the walk. -/
import Derived.Test.YtnpmadnihheahaaPlotI
import Derived.Deep.QuietTactic
import Derived.BigQuiet
namespace Go.Proofs.Ytnpmadnihheahaa
open Go.RowKit

theorem neq_str_same (s : ByteArray) (w : World) : (binOp .neq 9 (.string s) (.string s)).run Try.prog w = .ok (.bool false) w := by
  simp [binOp, Op.stringOp]

set_option maxHeartbeats 1000000 in
theorem ssame_any (a1 : Option Addr) (n c1 : Nat) (a2 : Option Addr) (c2 : Nat) (L : Nat → ByteArray) (w : World) (h1 : Rd w a1 n (strF L)) (h2 : Rd w a2 n (strF L)) (hn : n ≤ 1000000) :
    Calls Try.prog 16 #[.slice a1 n c1, .slice a2 n c2] w fun e w' => e = .returned (.bool true) ∧ Keeps w w' := by
  go_enter Try.func16, Try.ntmps16
  go_wp2_with fail
  go_loopw [13] (fun i wr => ∃ k : Nat, k ≤ n ∧ i = .int .i64 k ∧ Keeps w wr) (fun i _ => n - (intOf i).toNat)
  case atStart => exact ⟨0, Nat.zero_le _, rfl, Touch.refl _ _⟩
  case round =>
    obtain ⟨k, hk, rfl, K⟩ := hrel
    by_cases hlt : k < n
    · obtain ⟨b1, o1, rfl, d1⟩ := (h1.keep K).one hlt
      obtain ⟨b2, o2, rfl, d2⟩ := (h2.keep K).one hlt
      have d3 : wr.cell? ⟨b1, o1 + k, none⟩ = some (.string (L k)) := d1
      have d4 : wr.cell? ⟨b2, o2 + k, none⟩ = some (.string (L k)) := d2
      have hnq := neq_str_same (L k)
      clear d1 d2
      generalize L k = line at *
      go_wp2_with fail
      go_quiet (fail)
      go_wp2_with fail
      go_roundw
      case rel => exact ⟨k + 1, by omega, by go_num, K.drewN _⟩
      case measure => simp [intOf]; omega
    · obtain rfl : k = n := by omega
      go_wp2_with fail
      go_ret
      exact ⟨rfl, K⟩

theorem cnt_le (t : ByteArray) (h : t.size ≤ 4096) : cnt t ≤ 65 := by
  unfold cnt
  split
  · omega
  · obtain ⟨o1, o2, o3, o4, o5, o6, o7, o8⟩ := bx_ok t.size (by omega)
    unfold hei; omega

theorem draws_walk (s : ByteArray) (w : World) (hs : s.size ≤ 9223372036854775807) :
    Calls Try.prog 8 #[.string s] w fun e w' => e = .returned (.bool true) ∧ Keeps w w' := by
  have hc := cnt_le (cutS s) (by rw [cutS_size]; omega)
  have HC := Lib.hid hc
  clear hc
  by_cases h1 : s.size ≤ 5000
  · have g1 : ¬ (5000 : Int) < (s.size : Int) := by omega
    go_enter Try.func8, Try.ntmps8
    go_wp2_with fail
    refine (awake_any _).mono ?_
    rintro e w1 ⟨rfl, k1⟩
    go_wp2_with fail
    refine (draw_any s _ hs).mono ?_
    rintro e w2 ⟨ad2, cp2, rfl, r2, k2⟩
    go_wp2_with fail
    refine (rdraw_any s _ hs).mono ?_
    rintro e w3 ⟨ad3, cp3, rfl, r3, k3⟩
    go_wp2_with fail
    refine (ssame_any _ _ _ _ _ _ _ (r2.keep k3) r3 (by have := HC.out; omega)).mono ?_
    rintro e w4 ⟨rfl, k4⟩
    go_wp2_with fail
    go_ret
    exact ⟨rfl, Keeps.trans (Keeps.trans (Keeps.trans k1 k2) k3) k4⟩
  · have g1 : (5000 : Int) < (s.size : Int) := by omega
    go_enter Try.func8, Try.ntmps8
    go_wp2_with fail
    refine (awake_any _).mono ?_
    rintro e w1 ⟨rfl, k1⟩
    go_wp2_with fail
    refine (awake_any _).mono ?_
    rintro e w2 ⟨rfl, k2⟩
    go_wp2_with fail
    go_ret
    exact ⟨rfl, Keeps.trans k1 k2⟩

end Go.Proofs.Ytnpmadnihheahaa
