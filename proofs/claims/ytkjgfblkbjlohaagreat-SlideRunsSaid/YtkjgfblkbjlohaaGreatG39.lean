/- Layer 16, slide: the closures of Run. -/
import Derived.Test.YtkjgfblkbjlohaaGreatG12
import Derived.Test.YtkjgfblkbjlohaaGreatG15
set_option linter.all false

namespace Go.Proofs.YtkjgfblkbjlohaaGreat
open Go.RowKit

theorem run_end (ar : Array Value) (w : World) : (callFunc 30 ar).run Tryz.prog w = .ok (.enter 30 ar) w := by kernel_rfl
theorem run_root (ar : Array Value) (w : World) : (callFunc 35 ar).run Tryz.prog w = .ok (.enter 35 ar) w := by kernel_rfl
/-- A root goes nowhere. -/
theorem root_clos (pr rb mb : Nat) (M : Int → Option Int) (n : Nat) (a : Int) (w : World) (hp : w.cell? ⟨pr, 0, none⟩ = some (.pointer (some ⟨rb, 0, none⟩))) (hc : w.cell? ⟨rb, 5, none⟩ = some (.map (some mb))) (hM : MapIs w mb M n) (ha : I64 a) :
    Calls Tryz.prog 35 #[.int .i64 a, .pointer (some ⟨pr, 0, none⟩)] w fun e w' => e = .returned (.bool (M a).isNone) ∧ w = w' := by
  have HG := Lib.hid (goes_any rb mb M n a w hc hM ha)
  clear hc hM
  go_enter Tryz.func35, Tryz.ntmps35
  go_wp2_with fail
  refine Calls.mono HG.out ?_
  rintro e w1 ⟨rfl, rfl⟩
  go_wp2_with fail
  go_ret
  exact ⟨rfl, rfl⟩
/-- A space ends behind the arena. -/
theorem end_clos (s : Sp) (pa ba bw n : Nat) (f : Nat → Int) (w : World) (hp : w.cell? ⟨pa, 0, none⟩ = some (.pointer (some ⟨ba, 0, none⟩))) (h : Ar w ba bw n f) :
    Calls Tryz.prog 30 #[agg s, .pointer (some ⟨pa, 0, none⟩)] w fun e w' => e = .returned (.bool (decide ((n : Int) < s.e))) ∧ Keeps w w' := by
  obtain ⟨sf, st, se⟩ := s
  unfold agg
  dsimp only
  have K1 : Keeps w (w.alloc (.cells #[.int .i64 sf, .int .i64 st, .int .i64 se] 56)) := (Touch.refl _ w).alloc _
  have hA1 := h.keep K1
  have hpl := block_lt_of_cell hp
  have HL := Lib.hid (fun q => alen_any ba bw n f ((w.alloc (.cells #[.int .i64 sf, .int .i64 st, .int .i64 se] 56)).drewN q) (hA1.keep ((Touch.refl _ _).drewN q)))
  clear h hA1
  go_enter Tryz.func30, Tryz.ntmps30
  go_wp2_with fail
  go_quiet ((go_at_call 31; exact Calls.quiet_of_same ((HL.out _).mono fun _ _ h => ⟨h.1, h.2.symm⟩)))
  go_wp2_with fail
  go_ret
  exact ⟨rfl, K1.drewN _⟩

end Go.Proofs.YtkjgfblkbjlohaaGreat
