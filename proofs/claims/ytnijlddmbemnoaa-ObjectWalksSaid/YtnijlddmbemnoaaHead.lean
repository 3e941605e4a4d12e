/- Layer 4, head, by contracts. -/
import Derived.Test.YtnijlddmbemnoaaBase
import Derived.Deep.QuietTactic
import Derived.BigQuiet
import Derived.Handy
import Derived.StillTailTactics
namespace Go.Proofs.Ytnijlddmbemnoaa
open Go.RowKit

structure Hd where
  cls : Int
  age : Int
  fwd : Int
  mark : Bool
  fin : Bool
  done : Bool
def hdV (h : Hd) : Value := .agg #[.int .i64 h.cls, .int .i64 h.age, .int .i64 h.fwd, .bool h.mark, .bool h.fin, .bool h.done]
def Hd.ok (h : Hd) : Prop := (0 ≤ h.cls ∧ h.cls < 64) ∧ (0 ≤ h.age ∧ h.age < 8) ∧ (0 ≤ h.fwd ∧ h.fwd < 4096) ∧ ¬ (h.fin = true ∧ h.done = true)
instance (h : Hd) : Decidable h.ok := by unfold Hd.ok; infer_instance

theorem within_any (a e : Int) (w : World) :
    Calls Try.prog 58 #[.int .i64 a, .int .i64 e] w fun r w' => r = .returned (.bool (decide (0 ≤ a ∧ a < e))) ∧ w' = w := by
  by_cases h1 : 0 ≤ a
  · by_cases h2 : a < e
    · rw [decide_eq_true (And.intro h1 h2)]
      go_enter Try.func58, Try.ntmps58
      go_wp2_with fail
      go_ret
      exact ⟨rfl, rfl⟩
    · rw [decide_eq_false (fun h => h2 h.2)]
      go_enter Try.func58, Try.ntmps58
      go_wp2_with fail
      go_ret
      exact ⟨by simp, rfl⟩
  · rw [decide_eq_false (fun h => h1 h.1)]
    have h3 : a < 0 := by omega
    go_enter Try.func58, Try.ntmps58
    go_wp2_with fail
    go_ret
    exact ⟨rfl, rfl⟩
theorem pow_wrap : ∀ k : Nat, k ≤ 40 → wrap64 (2 ^ k) = 2 ^ k := by decide +kernel
theorem bit_any (b : Bool) (k : Nat) (hk : k ≤ 40) (w : World) :
    Calls Try.prog 53 #[.bool b, .int .i64 (k : Int)] w fun r w' => r = .returned (.int .i64 (if b then 2 ^ k else 0)) ∧ w' = w := by
  cases b with
  | true =>
    go_enter Try.func53, Try.ntmps53
    go_wp2_with fail
    go_ret
    exact ⟨congrArg (fun x => Ending.returned (.int .i64 x)) (pow_wrap k hk), rfl⟩
  | false =>
    go_enter Try.func53, Try.ntmps53
    go_wp2_with fail
    go_ret
    exact ⟨rfl, rfl⟩

theorem hright_any (h : Hd) (w : World) :
    Calls Try.prog 52 #[hdV h] w fun r w' => r = .returned (.bool (decide h.ok)) ∧ Keeps w w' := by
  have HW := Lib.hid (fun a e w => within_any a e w)
  obtain ⟨c, a, f, m, fi, d⟩ := h
  unfold hdV
  have HB := Lib.hid (Blk.made w 6 33 (fun j => if j = 0 then .int .i64 c else if j = 1 then .int .i64 a else if j = 2 then .int .i64 f else if j = 3 then .bool m else if j = 4 then .bool fi else .bool d) #[.int .i64 c, .int .i64 a, .int .i64 f, .bool m, .bool fi, .bool d] rfl (fun j hj => by rcases (by omega : j = 0 ∨ j = 1 ∨ j = 2 ∨ j = 3 ∨ j = 4 ∨ j = 5) with rfl | rfl | rfl | rfl | rfl | rfl <;> rfl))
  have HK := Lib.hid ((Touch.refl (fun _ => False) w).alloc (.cells #[.int .i64 c, .int .i64 a, .int .i64 f, .bool m, .bool fi, .bool d] 33))
  have hq : decide (Hd.ok ⟨c, a, f, m, fi, d⟩) = (decide (0 ≤ c ∧ c < 64) && (decide (0 ≤ a ∧ a < 8) && (decide (0 ≤ f ∧ f < 4096) && !(fi && d)))) := by
    unfold Hd.ok
    cases fi <;> cases d <;> simp [Bool.decide_and]
  rw [hq]
  clear hq
  go_enter Try.func52, Try.ntmps52
  go_wp2_with fail
  refine (HW.out _ _ _).mono ?_
  rintro r w1 ⟨rfl, rfl⟩
  have d1 := HB.out.cell (j := 1) (by omega)
  have d2 := HB.out.cell (j := 2) (by omega)
  have d4 := HB.out.cell (j := 4) (by omega)
  have d5 := HB.out.cell (j := 5) (by omega)
  simp at d1 d2 d4 d5
  cases hc1 : decide (0 ≤ c ∧ c < 64) with
  | false =>
    have H1 := Lib.hid hc1
    clear hc1
    go_wp2_with fail
    go_ret
    exact ⟨by rw [H1.out]; rfl, HK.out⟩
  | true =>
    have H1 := Lib.hid hc1
    clear hc1
    go_wp2_with fail
    refine (HW.out _ _ _).mono ?_
    rintro r w1 ⟨rfl, rfl⟩
    cases hc1 : decide (0 ≤ a ∧ a < 8) with
    | false =>
      have H2 := Lib.hid hc1
      clear hc1
      go_wp2_with fail
      go_ret
      exact ⟨by rw [H1.out, H2.out]; rfl, HK.out⟩
    | true =>
      have H2 := Lib.hid hc1
      clear hc1
      go_wp2_with fail
      refine (HW.out _ _ _).mono ?_
      rintro r w1 ⟨rfl, rfl⟩
      cases hc1 : decide (0 ≤ f ∧ f < 4096) with
      | false =>
        have H3 := Lib.hid hc1
        clear hc1
        go_wp2_with fail
        go_ret
        exact ⟨by rw [H1.out, H2.out, H3.out]; rfl, HK.out⟩
      | true =>
        have H3 := Lib.hid hc1
        clear hc1
        cases fi with
        | false =>
          go_wp2_with fail
          go_ret
          exact ⟨by rw [H1.out, H2.out, H3.out]; rfl, HK.out⟩
        | true =>
          go_wp2_with fail
          go_ret
          exact ⟨by rw [H1.out, H2.out, H3.out]; rfl, HK.out⟩

end Go.Proofs.Ytnijlddmbemnoaa
