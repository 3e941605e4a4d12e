/- Layer 4, head: Word. -/
import Derived.Test.YtnijlddmbemnoaaHead
import Derived.Laws.BitsAllLaws
namespace Go.Proofs.Ytnijlddmbemnoaa
open Go.RowKit

/-- A head as a word. -/
def bitI (b : Bool) (k : Nat) : Int := if b then 2 ^ k else 0
def hdW (h : Hd) : Int := h.cls + 64 * h.age + bitI h.mark 10 + bitI h.fin 11 + bitI h.done 12 + 8192 * h.fwd
theorem bit10 (b : Bool) (w : World) : Calls Try.prog 53 #[.bool b, .int .i64 10] w fun r w' => r = .returned (.int .i64 (bitI b 10)) ∧ w' = w := bit_any b 10 (by omega) w
theorem bit11 (b : Bool) (w : World) : Calls Try.prog 53 #[.bool b, .int .i64 11] w fun r w' => r = .returned (.int .i64 (bitI b 11)) ∧ w' = w := bit_any b 11 (by omega) w
theorem bit12 (b : Bool) (w : World) : Calls Try.prog 53 #[.bool b, .int .i64 12] w fun r w' => r = .returned (.int .i64 (bitI b 12)) ∧ w' = w := bit_any b 12 (by omega) w
theorem wraps_i64_63 (n : Int) (h0 : 0 ≤ n) (h1 : n < 2 ^ 63) : IntKind.i64.wrap n = n := IntWalk.i64_in n ⟨by omega, by omega⟩
/-- Two numbers whose bits lie apart. -/
theorem or_apart (i : Nat) (hi : i ≤ 40) (x y : Int) (hx0 : 0 ≤ x) (hx : x < 2 ^ i) (hy0 : 0 ≤ y) (hy : y % 2 ^ i = 0) (hy1 : y < 2 ^ 62) : bits .or .i64 x y = x + y := by
  have hp : (2 : Nat) ^ i ≤ 2 ^ 40 := Nat.pow_le_pow_right (by decide) hi
  obtain ⟨a, rfl⟩ := Int.eq_ofNat_of_zero_le hx0
  obtain ⟨b, rfl⟩ := Int.eq_ofNat_of_zero_le hy0
  have ha : a < 2 ^ i := by exact_mod_cast hx
  have hb : b % 2 ^ i = 0 := by exact_mod_cast hy
  have hb1 : b < 2 ^ 62 := by exact_mod_cast hy1
  have p1 : (2 : Nat) ^ 40 < 2 ^ 63 := by decide
  have p2 : (2 : Nat) ^ 62 < 2 ^ 63 := by decide
  have h := (bits_nat .i64 63 (by decide) wraps_i64_63 a b (Nat.lt_trans ha (Nat.lt_of_le_of_lt hp p1)) (Nat.lt_trans hb1 p2)).2
  rw [Nat.or_comm, nat_join i b a hb ha, Nat.add_comm] at h
  simpa using h
set_option maxHeartbeats 400000 in
theorem word_yes (h : Hd) (w : World) (hok : h.ok) :
    Calls Try.prog 34 #[hdV h] w fun r w' => r = .returned (.tuple #[.int .i64 (hdW h), .int .i64 0]) ∧ Keeps w w' := by
  have hr := fun w => hright_any h w
  simp only [decide_eq_true hok] at hr
  have HR := Lib.hid hr
  clear hr
  obtain ⟨⟨o1, o2⟩, ⟨o3, o4⟩, ⟨o5, o6⟩, o7⟩ := hok
  obtain ⟨c, a, f, m, fi, d⟩ := h
  unfold hdV at *
  dsimp only at *
  have hB := Blk.made w 6 33 (fun j => if j = 0 then .int .i64 c else if j = 1 then .int .i64 a else if j = 2 then .int .i64 f else if j = 3 then .bool m else if j = 4 then .bool fi else .bool d) #[.int .i64 c, .int .i64 a, .int .i64 f, .bool m, .bool fi, .bool d] rfl (fun j hj => by rcases (by omega : j = 0 ∨ j = 1 ∨ j = 2 ∨ j = 3 ∨ j = 4 ∨ j = 5) with rfl | rfl | rfl | rfl | rfl | rfl <;> rfl)
  have HB := Lib.hid hB
  have HK := Lib.hid ((Touch.refl (fun _ => False) w).alloc (.cells #[.int .i64 c, .int .i64 a, .int .i64 f, .bool m, .bool fi, .bool d] 33))
  clear hB
  go_enter Try.func34, Try.ntmps34
  go_wp2_with fail
  refine (HR.out _).mono ?_
  rintro r w1 ⟨rfl, k1⟩
  have hB1 := Blk.touch HB.out k1 (fun h => h)
  have d0 : w1.cell? ⟨w.heap.size, 0, none⟩ = some (.int .i64 c) := hB1.cell (j := 0) (by omega)
  have d1 : w1.cell? ⟨w.heap.size, 1, none⟩ = some (.int .i64 a) := hB1.cell (j := 1) (by omega)
  have d2 : w1.cell? ⟨w.heap.size, 2, none⟩ = some (.int .i64 f) := hB1.cell (j := 2) (by omega)
  have d3 : w1.cell? ⟨w.heap.size, 3, none⟩ = some (.bool m) := hB1.cell (j := 3) (by omega)
  have d4 : w1.cell? ⟨w.heap.size, 4, none⟩ = some (.bool fi) := hB1.cell (j := 4) (by omega)
  have d5 : w1.cell? ⟨w.heap.size, 5, none⟩ = some (.bool d) := hB1.cell (j := 5) (by omega)
  have K1 := Keeps.trans HK.out k1
  clear hB1 k1
  have G1 := Lib.hid (fun n => Calls.quiet_of_same ((bit10 m (w1.drewN n)).mono fun _ _ h => h))
  have G2 := Lib.hid (fun n => Calls.quiet_of_same ((bit11 fi (w1.drewN n)).mono fun _ _ h => h))
  have G3 := Lib.hid (fun n => Calls.quiet_of_same ((bit12 d (w1.drewN n)).mono fun _ _ h => h))
  have q1 : bitI m 10 = 0 ∨ bitI m 10 = 1024 := by cases m <;> simp [bitI]
  have q2 : bitI fi 11 = 0 ∨ bitI fi 11 = 2048 := by cases fi <;> simp [bitI]
  have q3 : bitI d 12 = 0 ∨ bitI d 12 = 4096 := by cases d <;> simp [bitI]
  have HV := Lib.hid (show bits .or .i64 (bits .or .i64 (bits .or .i64 (bits .or .i64 (bits .or .i64 c (a * 64)) (bitI m 10)) (bitI fi 11)) (bitI d 12)) (f * 8192) = c + 64 * a + bitI m 10 + bitI fi 11 + bitI d 12 + 8192 * f by
    rw [or_apart 6 (by omega) c (a * 64) (by omega) (by omega) (by omega) (by omega) (by omega),
      or_apart 10 (by omega) (c + a * 64) (bitI m 10) (by omega) (by omega) (by omega) (by omega) (by omega),
      or_apart 11 (by omega) (c + a * 64 + bitI m 10) (bitI fi 11) (by omega) (by omega) (by omega) (by omega) (by omega),
      or_apart 12 (by omega) (c + a * 64 + bitI m 10 + bitI fi 11) (bitI d 12) (by omega) (by omega) (by omega) (by omega) (by omega),
      or_apart 13 (by omega) (c + a * 64 + bitI m 10 + bitI fi 11 + bitI d 12) (f * 8192) (by omega) (by omega) (by omega) (by omega) (by omega)]
    omega)
  clear q1 q2 q3
  go_wp2_with fail
  go_quiet ((go_at_call 53; first | with_reducible exact G1.out _ | with_reducible exact G2.out _ | with_reducible exact G3.out _))
  go_wp2_with fail
  go_returns
  exact ⟨congrArg (fun x => Ending.returned (.tuple #[.int .i64 x, .int .i64 0])) HV.out, K1.drewN _⟩

end Go.Proofs.Ytnijlddmbemnoaa
