/- Slide: rise, ContainsFunc, back, same. -/
import Derived.Test.YtaajcbklknjigaaSl1
namespace Go.Proofs.Ytaajcbklknjigaa
open Go.RowKit

/-- What is known of the first i spaces. -/
def RiseU (L : Nat → Sp) (i : Nat) : Prop := ∀ j, j < i → rightB (L j) = true ∧ endAt L j ≤ (L j).f
theorem not_rise {L : Nat → Sp} {n k : Nat} (hk : k < n) (h : ¬ (rightB (L k) = true ∧ endAt L k ≤ (L k).f)) : ¬ Rise L n := fun r => h (r k hk)
theorem rise_next {L : Nat → Sp} {k : Nat} (h : RiseU L k) (h1 : rightB (L k) = true) (h2 : endAt L k ≤ (L k).f) : RiseU L (k + 1) := by
  intro j hj
  rcases (by omega : j < k ∨ j = k) with h' | rfl
  · exact h j h'
  · exact ⟨h1, h2⟩

set_option maxHeartbeats 1000000 in
theorem rise_any (A : Option Addr) (n cap : Nat) (L : Nat → Sp) (w : World) (hr : Rd w A (n * 3) (spF L)) (hn : n ≤ 9223372036854775807) :
    Calls Try.prog 14 #[.slice A n cap] w fun e w' => ∃ b : Bool, e = .returned (.bool b) ∧ (b = true ↔ Rise L n) ∧ Keeps w w' := by
  go_enter Try.func14, Try.ntmps14
  go_wp2_with fail
  go_loopw [3, 8] (fun en i wr => ∃ k : Nat, k ≤ n ∧ en = .int .i64 (endAt L k) ∧ i = .int .i64 k ∧ RiseU L k ∧ Keeps w wr) (fun _ i _ => n - (intOf i).toNat)
  case atStart => exact ⟨0, Nat.zero_le _, rfl, rfl, fun j h => by omega, Touch.refl _ _⟩
  case round =>
    obtain ⟨k, hk, rfl, rfl, hall, K⟩ := hrel
    have HA := Lib.hid hall
    clear hall
    by_cases hlt : k < n
    · obtain ⟨b, off, rfl, c0, c1, c2⟩ := (hr.keep K).sp hlt
      have HN := Lib.hid (fun h => not_rise (L := L) hlt h)
      have HX := Lib.hid (fun h1 h2 => rise_next (L := L) (k := k) HA.out h1 h2)
      have hra := fun w => right_any (L k) w
      have HR := Lib.hid hra
      have hB : Blk (wr.alloc (.cells #[.int .i64 (L k).f, .int .i64 (L k).t, .int .i64 (L k).e] 36)) wr.heap.size 36 3 (spF fun _ => L k) :=
        Blk.made wr 3 _ _ _ rfl (fun j hj => by rcases (by omega : j = 0 ∨ j = 1 ∨ j = 2) with rfl | rfl | rfl <;> rfl)
      have K2 := K.alloc (.cells #[.int .i64 (L k).f, .int .i64 (L k).t, .int .i64 (L k).e] 36)
      clear hra
      generalize endAt L k = ek at *
      cases hq : rightB (L k) with
      | false =>
        rw [hq] at HR HN
        go_wp2_with fail
        refine (HR.out _).mono ?_
        rintro e w1 ⟨rfl, k1⟩
        go_wp2_with fail
        go_ret
        exact ⟨false, rfl, ⟨fun h => absurd h (by decide), fun h => absurd h (HN.out (fun h => absurd h.1 (by decide)))⟩, Keeps.trans K2 k1⟩
      | true =>
        rw [hq] at HR HN HX
        go_wp2_with fail
        refine (HR.out _).mono ?_
        rintro e w1 ⟨rfl, k1⟩
        have hB1 := Blk.touch hB k1 (fun h => h)
        have d0 : w1.cell? ⟨wr.heap.size, 0, none⟩ = some (.int .i64 (L k).f) := hB1.cell (j := 0) (by omega)
        have d2 : w1.cell? ⟨wr.heap.size, 2, none⟩ = some (.int .i64 (L k).e) := hB1.cell (j := 2) (by omega)
        by_cases hf : (L k).f < ek
        · go_wp2_with fail
          go_ret
          exact ⟨false, rfl, ⟨fun h => absurd h (by decide), fun h => absurd h (HN.out (fun h => (by have := h.2; omega)))⟩, Keeps.trans K2 k1⟩
        · go_wp2_with fail
          go_roundw
          case rel => exact ⟨k + 1, by omega, rfl, by go_num, HX.out trivial (by omega), Keeps.trans K2 k1⟩
          case measure => simp [intOf]; omega
    · have HE : k = n := by omega
      go_wp2_with fail
      go_ret
      exact ⟨true, rfl, ⟨fun _ => by rw [← HE]; exact HA.out, fun _ => rfl⟩, K⟩

set_option maxHeartbeats 1000000 in
theorem rrise_any (A : Option Addr) (n cap : Nat) (L : Nat → Sp) (w : World) (hr : Rd w A (n * 3) (spF L)) (hn : n ≤ 9223372036854775807) :
    Calls Try.prog 18 #[.slice A n cap] w fun e w' => ∃ b : Bool, e = .returned (.bool b) ∧ (b = true ↔ Rise L n) ∧ Keeps w w' := by
  go_enter Try.func18, Try.ntmps18
  go_wp2_with fail
  go_loopw [3, 7] (fun en i wr => ∃ k : Nat, k ≤ n ∧ en = .int .i64 (endAt L k) ∧ i = .int .i64 k ∧ RiseU L k ∧ Keeps w wr) (fun _ i _ => n - (intOf i).toNat)
  case atStart => exact ⟨0, Nat.zero_le _, rfl, rfl, fun j h => by omega, Touch.refl _ _⟩
  case round =>
    obtain ⟨k, hk, rfl, rfl, hall, K⟩ := hrel
    have HA := Lib.hid hall
    clear hall
    by_cases hlt : k < n
    · obtain ⟨b, off, rfl, c0, c1, c2⟩ := (hr.keep K).sp hlt
      have HN := Lib.hid (fun h => not_rise (L := L) hlt h)
      have HX := Lib.hid (fun h1 h2 => rise_next (L := L) (k := k) HA.out h1 h2)
      have HR := Lib.hid (fun w => rright_any (L k) w)
      generalize endAt L k = ek at *
      cases hq : rightB (L k) with
      | false =>
        rw [hq] at HR HN
        go_wp2_with fail
        refine (HR.out _).mono ?_
        rintro e w1 ⟨rfl, k1⟩
        go_wp2_with fail
        go_ret
        exact ⟨false, rfl, ⟨fun h => absurd h (by decide), fun h => absurd h (HN.out (fun h => absurd h.1 (by decide)))⟩, Keeps.trans K k1⟩
      | true =>
        rw [hq] at HR HN HX
        go_wp2_with fail
        refine (HR.out _).mono ?_
        rintro e w1 ⟨rfl, k1⟩
        have hbl := World.block_lt_of_cell? _ _ c0
        have d0 : w1.cell? ⟨b, off + k * 3, none⟩ = some (.int .i64 (L k).f) := by rw [← c0]; exact World.cell?_of_block (k1.block b hbl (fun h => h))
        have d2 : w1.cell? ⟨b, off + k * 3 + 2, none⟩ = some (.int .i64 (L k).e) := by rw [← c2]; exact World.cell?_of_block (k1.block b hbl (fun h => h))
        clear c0 c1 c2
        by_cases hf : (L k).f < ek
        · go_wp2_with fail
          go_ret
          exact ⟨false, rfl, ⟨fun h => absurd h (by decide), fun h => absurd h (HN.out (fun h => (by have := h.2; omega)))⟩, Keeps.trans K k1⟩
        · go_wp2_with fail
          go_roundw
          case rel => exact ⟨k + 1, by omega, rfl, by go_num, HX.out trivial (by omega), Keeps.trans K k1⟩
          case measure => simp [intOf]; omega
    · have HE : k = n := by omega
      go_wp2_with fail
      go_ret
      exact ⟨true, rfl, ⟨fun _ => by rw [← HE]; exact HA.out, fun _ => rfl⟩, K⟩

theorem run_clos (ar : Array Value) (w : World) : (callFunc 16 ar).run Try.prog w = .ok (.enter 16 ar) w := by kernel_rfl
theorem clos_any (z : Int) (w : World) : Calls Try.prog 16 #[.int .i64 z] w fun e w' => e = .returned (.bool (decide (z < 1))) ∧ w = w' := by
  go_enter Try.func16, Try.ntmps16
  go_wp2_with fail
  go_ret
  exact ⟨rfl, rfl⟩
set_option maxHeartbeats 1000000 in
theorem index_any (A : Option Addr) (n cap : Nat) (Z : Nat → Int) (w : World) (hr : Rd w A n (intF .i64 Z)) (hn : n ≤ 9223372036854775807) :
    Calls Try.prog 20 #[.slice A n cap, .func (.func 16) #[] #[]] w fun e w' => ∃ i : Int, e = .returned (.int .i64 i) ∧ (0 ≤ i ↔ ¬ ∀ j, j < n → 1 ≤ Z j) ∧ Keeps w w' := by
  have hcall := run_clos
  go_enter Try.func20, Try.ntmps20
  go_wp2_with fail
  go_loopw [8] (fun i wr => ∃ k : Nat, k ≤ n ∧ i = .int .i64 k ∧ (∀ j, j < k → 1 ≤ Z j) ∧ Keeps w wr) (fun i _ => n - (intOf i).toNat)
  case atStart => exact ⟨0, Nat.zero_le _, rfl, fun j h => by omega, Touch.refl _ _⟩
  case round =>
    obtain ⟨k, hk, rfl, hall, K⟩ := hrel
    have HA := Lib.hid hall
    clear hall
    by_cases hlt : k < n
    · obtain ⟨b, off, rfl, c1⟩ := (hr.keep K).one hlt
      have c2 : wr.cell? ⟨b, off + k, none⟩ = some (.int .i64 (Z k)) := c1
      clear c1
      go_wp2_with fail
      refine (clos_any (Z k) _).mono ?_
      rintro e w1 ⟨rfl, rfl⟩
      by_cases hz : Z k < 1
      · have HZ := Lib.hid hz
        go_wp2_with fail
        go_ret
        exact ⟨k, rfl, ⟨fun _ h => by have := h k hlt; have := HZ.out; omega, fun _ => by omega⟩, K⟩
      · have HZ := Lib.hid hz
        go_wp2_with fail
        go_roundw
        case rel => exact ⟨k + 1, by omega, by go_num, fun j h => by
          rcases (by omega : j < k ∨ j = k) with h' | rfl
          · exact HA.out j h'
          · have := HZ.out; omega, K⟩
        case measure => simp [intOf]; omega
    · have HE : k = n := by omega
      go_wp2_with fail
      go_ret
      exact ⟨-1, rfl, ⟨fun h => by omega, fun h => absurd (by rw [← HE]; exact HA.out) h⟩, K⟩
theorem contains_any (A : Option Addr) (n cap : Nat) (Z : Nat → Int) (w : World) (hr : Rd w A n (intF .i64 Z)) (hn : n ≤ 9223372036854775807) :
    Calls Try.prog 15 #[.slice A n cap, .func (.func 16) #[] #[]] w fun e w' => ∃ b : Bool, e = .returned (.bool b) ∧ (b = true ↔ ¬ ∀ j, j < n → 1 ≤ Z j) ∧ Keeps w w' := by
  have HI := Lib.hid (index_any A n cap Z w hr hn)
  go_enter Try.func15, Try.ntmps15
  go_wp2_with fail
  refine Calls.mono HI.out ?_
  rintro e w1 ⟨i, rfl, hi, k1⟩
  have HII := Lib.hid hi
  clear hi
  go_wp2_with fail
  go_ret
  exact ⟨decide (0 ≤ i), rfl, by rw [decide_eq_true_iff]; exact HII.out, k1⟩

end Go.Proofs.Ytaajcbklknjigaa
