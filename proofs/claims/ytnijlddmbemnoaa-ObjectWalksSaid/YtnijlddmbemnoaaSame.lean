/- gleaningref01.Same by contract: are two lists of integers alike? -/
import Derived.Test.YtnijlddmbemnoaaOpen
import Derived.Deep.QuietTactic
import Derived.BigQuiet
namespace Go.Proofs.Ytnijlddmbemnoaa
open Go.RowKit

def sameB (n : Nat) (f : Nat → Int) (m : Nat) (g : Nat → Int) : Bool := decide (n = m) && (List.range n).all fun i => f i == g i
theorem sameB_true {n : Nat} {f g : Nat → Int} (h : ∀ i, i < n → f i = g i) : sameB n f n g = true := by
  simp only [sameB, decide_true, Bool.true_and, List.all_eq_true, List.mem_range, beq_iff_eq]
  exact h
theorem sameB_false {n : Nat} {f g : Nat → Int} {m k : Nat} (hk : k < n) (h : f k ≠ g k) : sameB n f m g = false := by
  rw [Bool.eq_false_iff]
  intro e
  simp only [sameB, Bool.and_eq_true, List.all_eq_true, List.mem_range, beq_iff_eq] at e
  exact h (e.2 k hk)

set_option maxHeartbeats 1000000 in
theorem same_any (A B : Option Addr) (n m ca cb : Nat) (f g : Nat → Int) (w : World) (hA : Rd w A n (intF .i64 f)) (hB : Rd w B m (intF .i64 g)) (hn : n ≤ 9223372036854775807) (hm : m ≤ 9223372036854775807) :
    Calls Try.prog 22 #[.slice A n ca, .slice B m cb] w fun e w' => e = .returned (.bool (sameB n f m g)) ∧ Keeps w w' := by
  by_cases hnm : n = m
  · subst hnm
    have hne : ((n : Int) != (n : Int)) = false := by simp
    go_enter Try.func22, Try.ntmps22
    go_wp2_with fail
    go_loopw [13] (fun i wr => ∃ k : Nat, k ≤ n ∧ i = .int .i64 k ∧ (∀ j, j < k → f j = g j) ∧ Keeps w wr) (fun i _ => n - (intOf i).toNat)
    case atStart => exact ⟨0, Nat.zero_le _, rfl, fun j h => by omega, Touch.refl _ _⟩
    case round =>
      obtain ⟨k, hk, rfl, hall, K⟩ := hrel
      have HA := Lib.hid hall
      clear hall
      by_cases hlt : k < n
      · obtain ⟨b1, o1, rfl, c1⟩ := (hA.keep K).one hlt
        obtain ⟨b2, o2, rfl, c2⟩ := (hB.keep K).one hlt
        have c3 : wr.cell? ⟨b1, o1 + k, none⟩ = some (.int .i64 (f k)) := c1
        have c4 : wr.cell? ⟨b2, o2 + k, none⟩ = some (.int .i64 (g k)) := c2
        clear c1 c2
        have hlt' : (k : Int) < (n : Int) := by omega
        by_cases e : f k = g k
        · have hq : (f k != g k) = false := by simp [e]
          have HE := Lib.hid e
          clear e
          go_wp2_with fail
          go_quiet (fail)
          go_wp2_with fail
          go_roundw
          case rel => exact ⟨k + 1, by omega, by go_num, fun j h => by
            rcases (by omega : j < k ∨ j = k) with h' | rfl
            · exact HA.out j h'
            · exact HE.out, K.drewN _⟩
          case measure => simp [intOf]; omega
        · have hq : (f k != g k) = true := by simp [e]
          have HE := Lib.hid (sameB_false (m := n) hlt e)
          clear e
          go_wp2_with fail
          go_quiet (fail)
          go_wp2_with fail
          go_ret
          exact ⟨by rw [HE.out]; rfl, K.drewN _⟩
      · have HE := Lib.hid (sameB_true (n := n) (f := f) (g := g) fun i hi => HA.out i (by omega))
        go_wp2_with fail
        go_ret
        exact ⟨by rw [HE.out]; rfl, K⟩
  · have hne : ((n : Int) != (m : Int)) = true := by simp; omega
    have HE := Lib.hid (show sameB n f m g = false by simp [sameB, hnm])
    clear hnm
    go_enter Try.func22, Try.ntmps22
    go_wp2_with fail
    go_ret
    exact ⟨by rw [HE.out]; rfl, Touch.refl _ _⟩

end Go.Proofs.Ytnijlddmbemnoaa
