/- Slide: same. -/
import Derived.Test.YtkjgfblkbjlohaaGreatG13
import Derived.Test.YtkjgfblkbjlohaaGreatG38
import Derived.BigQuiet
set_option linter.all false

namespace Go.Proofs.YtkjgfblkbjlohaaGreat
open Go.RowKit

set_option maxHeartbeats 1000000 in
theorem sps_any (A B : Option Addr) (n ca cb : Nat) (F G : Nat → Sp) (w : World) (hA : Rd w A (n * 3) (spF F)) (hB : Rd w B (n * 3) (spF G)) (hn : n ≤ 1000) (hfg : ∀ i, i < n → F i = G i) :
    Calls Tryz.prog 11 #[.slice A n ca, .slice B n cb] w fun e w' => e = .returned (.bool true) ∧ Keeps w w' := by
  have HFG := Lib.hid hfg
  clear hfg
  go_enter Tryz.func11, Tryz.ntmps11
  go_wp2_with fail
  go_loopw [13] (fun i wr => ∃ k : Nat, k ≤ n ∧ i = .int .i64 k ∧ Keeps w wr) (fun i _ => n - (intOf i).toNat)
  case atStart => exact ⟨0, Nat.zero_le _, rfl, Touch.refl _ _⟩
  case round =>
    obtain ⟨k, hk, rfl, K⟩ := hrel
    by_cases hlt : k < n
    · obtain ⟨b1, o1, rfl, c0, c1, c2⟩ := (hA.keep K).sp hlt
      obtain ⟨b2, o2, rfl, d0, d1, d2⟩ := (hB.keep K).sp hlt
      rw [HFG.out k hlt] at c0 c1 c2
      have hlt' : (k : Int) < (n : Int) := by omega
      generalize G k = s at *
      obtain ⟨f, t, e⟩ := s
      dsimp only at *
      go_wp2_with fail
      go_quiet (fail)
      go_wp2_with fail
      go_roundw
      case rel => exact ⟨k + 1, by omega, by go_num, K.drewN _⟩
      case measure => simp [intOf]; omega
    · go_wp2_with fail
      go_ret
      exact ⟨rfl, K⟩

end Go.Proofs.YtkjgfblkbjlohaaGreat
