/- The law's own test, awake, by contract. -/
import Derived.Test.YtnjjecojedlccaaHan3
namespace Go.Proofs.Ytnjjecojedlccaa
open Go.RowKit

def T0 : Nat → Pl := fun _ => ⟨0, false, 0⟩
theorem zero_tab (w : World) : (zeroValue 29).run Try.prog w = .ok (.agg (tabArr T0)) w := by kernel_rfl
theorem tab_made (w : World) (T : Nat → Pl) : Tab (w.alloc (.cells (tabArr T) 29)) w.heap.size T :=
  Blk.made w 192 _ _ _ (tabArr_size T) (fun j h => tabArr_get T j h)
theorem wf_T0 (N : Int) (h0 : 0 ≤ N) (h : N ≤ 100000) : WF T0 N := ⟨h, fun i _ => ⟨by simp [T0], by simpa [T0] using h0, by simp [T0]⟩⟩

theorem WF.set {T : Nat → Pl} {N M : Int} (h : WF T N) (i : Nat) (p : Pl) (hM : M ≤ 100000) (hN : N ≤ M) (h0 : 0 ≤ p.n) (h1 : p.n ≤ M) (h2 : p.on = true → 1 ≤ p.n) : WF (setT T i p) M := by
  refine ⟨hM, fun j hj => ?_⟩
  unfold setT
  by_cases e : j = i
  · rw [if_pos e]; exact ⟨h0, h1, h2⟩
  · rw [if_neg e]; obtain ⟨a, b, c⟩ := h.2 j hj; exact ⟨a, by omega, c⟩
theorem WF.mono {T : Nat → Pl} {N M : Int} (h : WF T N) (hM : M ≤ 100000) (hN : N ≤ M) : WF T M :=
  ⟨hM, fun j hj => by obtain ⟨a, b, c⟩ := h.2 j hj; exact ⟨a, by omega, c⟩⟩
theorem freeT_lt {T : Nat → Pl} : ∀ (k i j : Nat), freeT T k i = some j → i ≤ j ∧ j < i + k ∧ (T j).on = false ∧ ∀ m, i ≤ m → m < j → (T m).on = true
  | 0, _, _, h => by cases h
  | k + 1, i, j, h => by
    unfold freeT at h
    by_cases e : (T i).on = true
    · rw [if_pos e] at h
      obtain ⟨a, b, c, d⟩ := freeT_lt k (i + 1) j h
      refine ⟨by omega, by omega, c, fun m h1 h2 => ?_⟩
      by_cases e2 : m = i
      · subst e2; exact e
      · exact d m (by omega) h2
    · rw [if_neg e] at h
      cases h
      exact ⟨Nat.le_refl _, by omega, by simpa using e, fun m h1 h2 => by omega⟩
theorem WF.new {T : Nat → Pl} {N : Int} (h : WF T N) (x : Int) (hN : N ≤ 99999) : WF (newT T x) (N + 1) := by
  unfold newT
  cases e : freeT T 64 0 with
  | none => exact h.mono (by omega) (by omega)
  | some i =>
    obtain ⟨_, hi, _, _⟩ := freeT_lt _ _ _ e
    obtain ⟨a, b, c⟩ := h.2 i (by omega)
    exact h.set i _ (by omega) (by omega) (by simp; omega) (by simp; omega) (by simp; omega)
theorem WF.drop {T : Nat → Pl} {N : Int} (h : WF T N) (x : Int) : WF (dropT T x) N := by
  unfold dropT
  cases e : findT T x with
  | none => exact h
  | some i =>
    obtain ⟨a, b, c⟩ := h.2 i (findT_lt e)
    exact h.set i _ h.1 (by omega) a b (by simp)
theorem WF.setX {T : Nat → Pl} {N : Int} (h : WF T N) (k x : Int) : WF (setX T k x) N := by
  unfold Ytnjjecojedlccaa.setX
  cases e : findT T k with
  | none => exact h
  | some i =>
    obtain ⟨a, b, c⟩ := h.2 i (findT_lt e)
    exact h.set i _ h.1 (by omega) a b c

set_option maxHeartbeats 1000000 in
theorem awake_any (w : World) :
    Calls Try.prog 9 #[] w fun e w' => e = .returned (.bool true) ∧ Keeps w w' := by
  have hz := zero_tab
  have hT0 := Lib.hid (tab_made w T0)
  go_enter Try.func9, Try.ntmps9
  go_wp2_with fail
  refine (new_any _ T0 _ _ 0 hT0.out (wf_T0 0 (by omega) (by omega)) (by omega)).mono ?_
  rintro e w1 ⟨rfl, hT1, k1⟩
  have W1 : WF (newT T0 7) 1 := (wf_T0 0 (by omega) (by omega)).new 7 (by omega)
  go_wp2_with fail
  refine (new_any _ _ _ _ 1 hT1 W1 (by omega)).mono ?_
  rintro e w2 ⟨rfl, hT2, k2⟩
  have W2 : WF (newT (newT T0 7) 8) 2 := W1.new 8 (by omega)
  go_wp2_with fail
  refine (drop_any _ _ _ _ 2 hT2 W2 (by omega) (by omega)).mono ?_
  rintro e w3 ⟨rfl, hT3, k3⟩
  have W3 := W2.drop 1
  go_wp2_with fail
  refine (new_any _ _ _ _ 2 hT3 W3 (by omega)).mono ?_
  rintro e w4 ⟨rfl, hT4, k4⟩
  have e1 : newA T0 = 1 := by decide
  have e2 : newE T0 = 0 := by decide
  have e3 : newA (newT T0 7) = 2 := by decide
  have e4 : errE (newT (newT T0 7) 8) 1 = 0 := by decide
  have e5 : newA (dropT (newT (newT T0 7) 8) 1) = 65 := by decide
  go_wp2_with fail
  go_ret
  exact ⟨rfl, ((((Touch.refl _ _).alloc _).new k1 (Nat.le_refl _)).new k2 (Nat.le_refl _) |>.new k3 (Nat.le_refl _)).new k4 (Nat.le_refl _)⟩

end Go.Proofs.Ytnjjecojedlccaa
