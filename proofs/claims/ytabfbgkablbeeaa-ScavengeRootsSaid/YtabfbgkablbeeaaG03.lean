/- Layer 1, mem, by contracts: an arena is a block of words, behind a pointer. -/
import Derived.Test.YtabfbgkablbeeaaG02
import Derived.Laws.MakeOwn
set_option linter.all false

namespace Go.Proofs.Ytabfbgkablbeeaa
open Go.RowKit

/-- An arena: block ba holds its words' slice, block bw its n words. -/
structure Ar (w : World) (ba bw n : Nat) (f : Nat → Int) : Prop where
  head : Blk w ba 85 1 (fun _ => .slice (some ⟨bw, 0, none⟩) n n)
  body : Blk w bw 3 n (fun j => .int .i64 (f j))
  ne : ba ≠ bw
  le : n ≤ 4096
namespace Ar
variable {w : World} {ba bw n : Nat} {f : Nat → Int}
theorem touch {S : Nat → Prop} {w' : World} (h : Ar w ba bw n f) (ht : Touch S w w') (h1 : ¬ S ba) (h2 : ¬ S bw) : Ar w' ba bw n f :=
  ⟨h.head.touch ht h1, h.body.touch ht h2, h.ne, h.le⟩
theorem keep {w' : World} (h : Ar w ba bw n f) (ht : Keeps w w') : Ar w' ba bw n f := h.touch ht (fun h => h) (fun h => h)
theorem congr {g : Nat → Int} (h : Ar w ba bw n f) (hg : ∀ j, j < n → f j = g j) : Ar w ba bw n g :=
  ⟨h.head, h.body.congr (fun j hj => by rw [hg j hj]), h.ne, h.le⟩
theorem c0 (h : Ar w ba bw n f) : w.cell? ⟨ba, 0, none⟩ = some (.slice (some ⟨bw, 0, none⟩) n n) := h.head.cell (j := 0) (by omega)
theorem set (h : Ar w ba bw n f) (k : Nat) (v : Int) : Ar (w.setCell ⟨bw, k, none⟩ (.int .i64 v)) ba bw n (fun j => if j = k then v else f j) := by
  refine ⟨Blk.other (p := ⟨bw, k, none⟩) h.head h.ne _, (h.body.set k (.int .i64 v)).congr (fun j _ => ?_), h.ne, h.le⟩
  unfold upd
  by_cases e : j = k <;> simp [e]
theorem lt1 (h : Ar w ba bw n f) : ba < w.heap.size := h.head.lt
theorem lt2 (h : Ar w ba bw n f) : bw < w.heap.size := h.body.lt
end Ar

theorem alen_any (ba bw n : Nat) (f : Nat → Int) (w : World) (h : Ar w ba bw n f) :
    Calls Try.prog 22 #[.pointer (some ⟨ba, 0, none⟩)] w fun e w' => e = .returned (.int .i64 (n : Int)) ∧ w = w' := by
  have c0 := h.c0
  go_enter Try.func22, Try.ntmps22
  go_wp2_with fail
  go_ret
  exact ⟨rfl, rfl⟩
theorem alen_nil (w : World) :
    Calls Try.prog 22 #[.pointer none] w fun e w' => e = .returned (.int .i64 0) ∧ w = w' := by
  go_enter Try.func22, Try.ntmps22
  go_wp2_with fail
  go_ret
  exact ⟨rfl, rfl⟩

/-- Words that are there. -/
theorem stretch_yes (ba bw n : Nat) (f : Nat → Int) (w : World) (h : Ar w ba bw n f) (k m : Nat) (h0 : 0 < m) (hk : k + m ≤ n) :
    Calls Try.prog 79 #[.pointer (some ⟨ba, 0, none⟩), .int .i64 (k : Int), .int .i64 (m : Int)] w fun e w' => e = .returned (.tuple #[.slice (some ⟨bw, k, none⟩) m (n - k), .bool true]) ∧ w = w' := by
  have c0 := h.c0
  have hle := h.le
  have HL := Lib.hid (alen_any ba bw n f w h)
  have i1 : ¬ ((n : Int) < (k : Int)) := by omega
  have i2 : ¬ ((n : Int) - (k : Int) < (m : Int)) := by omega
  have i3 : ((m : Int) == 0) = false := by rw [beq_eq_false_iff_ne]; omega
  clear h
  go_enter Try.func79, Try.ntmps79
  go_wp2_with fail
  refine Calls.mono HL.out ?_
  rintro e w1 ⟨rfl, rfl⟩
  go_wp2_with fail
  go_ret2
  refine ⟨?_, rfl⟩
  have e : k + m - k = m := by omega
  show Ending.returned (.tuple #[.slice (some ⟨bw, k, none⟩) (k + m - k) (n - k), .bool true]) = _
  rw [e]
/-- No words. -/
theorem stretch_zero (ba bw n : Nat) (f : Nat → Int) (w : World) (h : Ar w ba bw n f) (k : Nat) (hk : k ≤ n) :
    Calls Try.prog 79 #[.pointer (some ⟨ba, 0, none⟩), .int .i64 (k : Int), .int .i64 0] w fun e w' => e = .returned (.tuple #[.slice none 0 0, .bool true]) ∧ w = w' := by
  have c0 := h.c0
  have hle := h.le
  have HL := Lib.hid (alen_any ba bw n f w h)
  have i1 : ¬ ((n : Int) < (k : Int)) := by omega
  have i2 : ¬ ((n : Int) - (k : Int) < 0) := by omega
  clear h
  go_enter Try.func79, Try.ntmps79
  go_wp2_with fail
  refine Calls.mono HL.out ?_
  rintro e w1 ⟨rfl, rfl⟩
  go_wp2_with fail
  go_ret2
  exact ⟨rfl, rfl⟩
/-- Words that are not there. -/
theorem stretch_no (ba bw n : Nat) (f : Nat → Int) (w : World) (h : Ar w ba bw n f) (a m : Int) (ha : -9223372036854775808 ≤ a ∧ a ≤ 9223372036854775807) (hm : -9223372036854775808 ≤ m ∧ m ≤ 9223372036854775807) (hno : ¬ (0 ≤ m ∧ 0 ≤ a ∧ a + m ≤ n)) :
    Calls Try.prog 79 #[.pointer (some ⟨ba, 0, none⟩), .int .i64 a, .int .i64 m] w fun e w' => e = .returned (.tuple #[.slice none 0 0, .bool false]) ∧ w = w' := by
  have hle := h.le
  have HL := Lib.hid (alen_any ba bw n f w h)
  clear h
  by_cases h1 : m < 0
  · clear hno
    go_enter Try.func79, Try.ntmps79
    go_wp2_with fail
    refine Calls.mono HL.out ?_
    rintro e w1 ⟨rfl, rfl⟩
    go_wp2_with fail
    go_ret2
    exact ⟨rfl, rfl⟩
  · by_cases h2 : a < 0
    · clear hno
      go_enter Try.func79, Try.ntmps79
      go_wp2_with fail
      refine Calls.mono HL.out ?_
      rintro e w1 ⟨rfl, rfl⟩
      go_wp2_with fail
      go_ret2
      exact ⟨rfl, rfl⟩
    · by_cases h3 : (n : Int) < a
      · clear hno
        go_enter Try.func79, Try.ntmps79
        go_wp2_with fail
        refine Calls.mono HL.out ?_
        rintro e w1 ⟨rfl, rfl⟩
        go_wp2_with fail
        go_ret2
        exact ⟨rfl, rfl⟩
      · have h4 : (n : Int) - a < m := by omega
        have h5 : IntKind.i64.wrap ((n : Int) - a) = (n : Int) - a := IntWalk.i64_in _ ⟨by omega, by omega⟩
        clear hno
        go_enter Try.func79, Try.ntmps79
        go_wp2_with fail
        refine Calls.mono HL.out ?_
        rintro e w1 ⟨rfl, rfl⟩
        go_wp2_with fail
        go_ret2
        exact ⟨rfl, rfl⟩

theorem load_yes (ba bw n : Nat) (f : Nat → Int) (w : World) (h : Ar w ba bw n f) (k : Nat) (hk : k < n) :
    Calls Try.prog 80 #[.pointer (some ⟨ba, 0, none⟩), .int .i64 (k : Int)] w fun e w' => e = .returned (.tuple #[.int .i64 (f k), .int .i64 0]) ∧ w = w' := by
  have HS := Lib.hid (stretch_yes ba bw n f w h k 1 (by omega) (by omega))
  have c1 : w.cell? ⟨bw, k, none⟩ = some (.int .i64 (f k)) := h.body.cell hk
  clear h
  go_enter Try.func80, Try.ntmps80
  go_wp2_with fail
  refine Calls.mono HS.out ?_
  rintro e w1 ⟨rfl, rfl⟩
  go_wp2_with fail
  go_ret2
  exact ⟨rfl, rfl⟩
theorem load_no (ba bw n : Nat) (f : Nat → Int) (w : World) (h : Ar w ba bw n f) (a : Int) (ha : -9223372036854775808 ≤ a ∧ a ≤ 9223372036854775807) (hno : ¬ (0 ≤ a ∧ a < n)) :
    Calls Try.prog 80 #[.pointer (some ⟨ba, 0, none⟩), .int .i64 a] w fun e w' => e = .returned (.tuple #[.int .i64 0, .int .i64 2]) ∧ w = w' := by
  have HS := Lib.hid (stretch_no ba bw n f w h a 1 ha (by omega) (by omega))
  clear h
  go_enter Try.func80, Try.ntmps80
  go_wp2_with fail
  refine Calls.mono HS.out ?_
  rintro e w1 ⟨rfl, rfl⟩
  go_wp2_with fail
  go_ret2
  exact ⟨rfl, rfl⟩

def fillF (f : Nat → Int) (k m : Nat) (v : Int) : Nat → Int := fun j => if k ≤ j ∧ j < k + m then v else f j
theorem fill_yes (ba bw n : Nat) (f : Nat → Int) (w : World) (h : Ar w ba bw n f) (k m : Nat) (h0 : 0 < m) (hk : k + m ≤ n) (v : Int) :
    Calls Try.prog 71 #[.pointer (some ⟨ba, 0, none⟩), .int .i64 (k : Int), .int .i64 (m : Int), .int .i64 v] w fun e w' => e = .returned (.int .i64 0) ∧ Ar w' ba bw n (fillF f k m v) ∧ Only bw w w' := by
  have HS := Lib.hid (stretch_yes ba bw n f w h k m h0 hk)
  have hle := h.le
  go_enter Try.func71, Try.ntmps71
  go_wp2_with fail
  refine Calls.mono HS.out ?_
  rintro e w1 ⟨rfl, rfl⟩
  go_wp2_with fail
  go_loopw [23] (fun i wr => ∃ q : Nat, q ≤ m ∧ i = .int .i64 q ∧ Ar wr ba bw n (fillF f k q v) ∧ Only bw w wr) (fun i _ => m - (intOf i).toNat)
  case atStart => exact ⟨0, Nat.zero_le _, rfl, h.congr (fun j _ => by unfold fillF; rw [if_neg (by omega)]), Only.refl bw w⟩
  case round =>
    obtain ⟨q, hq, rfl, hA, hO⟩ := hrel
    by_cases hlt : q < m
    · have c1 : wr.cell? ⟨bw, k + q, none⟩ = some (.int .i64 (fillF f k q v (k + q))) := hA.body.cell (by omega)
      have c2 := hA.body.frozen (k + q)
      have hs := hA.set (k + q) v
      have HS2 := Lib.hid hs
      clear hs
      go_wp2_with fail
      go_roundw
      case rel =>
        refine ⟨q + 1, by omega, by go_num, HS2.out.congr (fun j _ => ?_), hO.set _ _⟩
        unfold fillF
        by_cases e : j = k + q
        · rw [if_pos e, if_pos (by omega)]
        · rw [if_neg e]
          by_cases e2 : k ≤ j ∧ j < k + q
          · rw [if_pos e2, if_pos (by omega)]
          · rw [if_neg e2, if_neg (by omega)]
      case measure => simp [intOf]; omega
    · obtain rfl : q = m := by omega
      go_wp2_with fail
      go_ret
      exact ⟨rfl, hA, hO⟩
theorem fill_no (ba bw n : Nat) (f : Nat → Int) (w : World) (h : Ar w ba bw n f) (a m v : Int) (ha : -9223372036854775808 ≤ a ∧ a ≤ 9223372036854775807) (hm : -9223372036854775808 ≤ m ∧ m ≤ 9223372036854775807) (hno : ¬ (0 ≤ m ∧ 0 ≤ a ∧ a + m ≤ n)) :
    Calls Try.prog 71 #[.pointer (some ⟨ba, 0, none⟩), .int .i64 a, .int .i64 m, .int .i64 v] w fun e w' => e = .returned (.int .i64 2) ∧ w = w' := by
  have HS := Lib.hid (stretch_no ba bw n f w h a m ha hm hno)
  clear h hno
  go_enter Try.func71, Try.ntmps71
  go_wp2_with fail
  refine Calls.mono HS.out ?_
  rintro e w1 ⟨rfl, rfl⟩
  go_wp2_with fail
  go_ret
  exact ⟨rfl, rfl⟩
def putF (f : Nat → Int) (k : Nat) (v : Int) : Nat → Int := fun j => if j = k then v else f j
theorem fillF_one (f : Nat → Int) (k : Nat) (v : Int) : fillF f k 1 v = putF f k v := by
  funext j
  unfold fillF putF
  by_cases e : j = k
  · rw [if_pos e, if_pos (by omega)]
  · rw [if_neg e, if_neg (by omega)]
theorem store_yes (ba bw n : Nat) (f : Nat → Int) (w : World) (h : Ar w ba bw n f) (k : Nat) (hk : k < n) (v : Int) :
    Calls Try.prog 72 #[.pointer (some ⟨ba, 0, none⟩), .int .i64 (k : Int), .int .i64 v] w fun e w' => e = .returned (.int .i64 0) ∧ Ar w' ba bw n (putF f k v) ∧ Only bw w w' := by
  have hf := fill_yes ba bw n f w h k 1 (by omega) (by omega) v
  rw [fillF_one] at hf
  have HS := Lib.hid hf
  clear h hf
  go_enter Try.func72, Try.ntmps72
  go_wp2_with fail
  refine Calls.mono HS.out ?_
  rintro e w1 ⟨rfl, hA, hO⟩
  go_wp2_with fail
  go_ret
  exact ⟨rfl, hA, hO⟩
theorem store_no (ba bw n : Nat) (f : Nat → Int) (w : World) (h : Ar w ba bw n f) (a v : Int) (ha : -9223372036854775808 ≤ a ∧ a ≤ 9223372036854775807) (hno : ¬ (0 ≤ a ∧ a < n)) :
    Calls Try.prog 72 #[.pointer (some ⟨ba, 0, none⟩), .int .i64 a, .int .i64 v] w fun e w' => e = .returned (.int .i64 2) ∧ w = w' := by
  have HS := Lib.hid (fill_no ba bw n f w h a 1 v ha (by omega) (by omega))
  clear h hno
  go_enter Try.func72, Try.ntmps72
  go_wp2_with fail
  refine Calls.mono HS.out ?_
  rintro e w1 ⟨rfl, rfl⟩
  go_wp2_with fail
  go_ret
  exact ⟨rfl, rfl⟩

theorem make_words (n : Nat) (h : n ≤ 4096) (w : World) : (Instr.makeSlice 39 (.int .i64 (n : Int)) (.int .i64 (n : Int))).run Try.prog w = .ok (.slice (some ⟨w.heap.size, 0, none⟩) n n) (w.alloc (.cells (Array.replicate n (.int .i64 0)) 3)) := by
  obtain ⟨i0, hi, hz0, hz1, hz2⟩ := info_parts info_int
  have h1 := run_make (P := Try.prog) w 39 3 i0 (.int .i64 0) (by kernel_rfl) hi hz0 .i64 .i64 (n : Int) (n : Int) (by omega) (Int.le_refl _) (by rw [hz2]; omega) (by omega)
  rw [h1, hz1]
  have e : madeCells (Value.int .i64 0).cells ((n : Int).toNat * 1) = Array.replicate n (.int .i64 0) := by
    apply Array.ext
    · simp [madeCells]
    · intro j h1 h2
      have e2 : j % 1 = 0 := by omega
      simp [madeCells, Value.cells, e2]
  rw [e]
  simp
/-- A new arena of n words. -/
theorem mnew_any (n : Nat) (hn : n ≤ 4096) (w : World) :
    Calls Try.prog 13 #[.int .i64 (n : Int)] w fun e w' => ∃ ba bw, e = .returned (.pointer (some ⟨ba, 0, none⟩)) ∧ Ar w' ba bw n (fun _ => 0) ∧ w.heap.size ≤ ba ∧ w.heap.size ≤ bw ∧ Keeps w w' := by
  have hmk := make_words n hn
  have m1 : ∀ ts t w, (Builtin.min_ ts t #[.int .i64 (n : Int), .int .i64 4096]).run Try.prog w = .ok (.int .i64 (n : Int)) w := fun ts t w => by
    rw [run_min_int2, if_neg (by omega)]
  have m2 : ∀ ts t w, (Builtin.max_ ts t #[.int .i64 0, .int .i64 (n : Int)]).run Try.prog w = .ok (.int .i64 (n : Int)) w := fun ts t w => by
    rw [run_max_int2]
    congr 2
    split <;> omega
  go_enter Try.func13, Try.ntmps13
  go_wp2_with fail
  go_ret
  have B1 := Blk.made w n 3 (fun _ => .int .i64 0) (Array.replicate n (.int .i64 0)) (by simp) (fun j hj => by simp [hj])
  have B2 := Blk.made (w.alloc (.cells (Array.replicate n (.int .i64 0)) 3)) 1 85 (fun _ => .slice (some ⟨w.heap.size, 0, none⟩) n n) #[.slice (some ⟨w.heap.size, 0, none⟩) n n] rfl (fun j hj => by cases (show j = 0 by omega); rfl)
  rw [World.size_alloc] at B2
  exact ⟨w.heap.size + 1, w.heap.size, rfl, ⟨B2, B1.alloc _, by omega, hn⟩, by omega, Nat.le_refl _, ((Touch.refl _ w).alloc _).alloc _⟩

end Go.Proofs.Ytabfbgkablbeeaa
