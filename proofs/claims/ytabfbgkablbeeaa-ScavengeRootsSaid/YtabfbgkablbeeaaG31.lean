/- Layer 15: cards of the addresses from 1 to 401: New, card, Touch, Dirty, Wipe. -/
import Derived.Test.YtabfbgkablbeeaaG01
import Derived.Test.YtabfbgkablbeeaaG02
import Derived.Laws.BitsAll
import Derived.Lib.SliceRun
import Derived.StillTailTactics
import Derived.BigQuiet
import Derived.Deep.QuietTactic
import Derived.Handy
import Derived.Test.YtabfbgkablbeeaaG03
set_option linter.all false

namespace Go.Proofs.Ytabfbgkablbeeaa
open Go.RowKit

def bmL (vb : Nat) : List Value := [.slice (some ⟨vb, 0, none⟩) 1 1, .int .i64 25]
/-- A map of 25 bits in one word. -/
structure Bm (w : World) (mb vb : Nat) (D : Nat → Bool) : Prop where
  m : BL w mb 118 (bmL vb)
  v : ∃ v : Nat, v < 33554432 ∧ BL w vb 125 [.int .u64 v] ∧ ∀ k, k < 25 → v.testBit k = D k
  ne : mb ≠ vb
theorem Bm.touch {S : Nat → Prop} {w w' : World} {mb vb : Nat} {D : Nat → Bool} (h : Bm w mb vb D) (t : Touch S w w') (h1 : ¬ S mb) (h2 : ¬ S vb) : Bm w' mb vb D := by
  obtain ⟨v, v1, v2, v3⟩ := h.v
  exact ⟨h.m.touch t h1, ⟨v, v1, v2.touch t h2, v3⟩, h.ne⟩
theorem Bm.keep {w w' : World} {mb vb : Nat} {D : Nat → Bool} (h : Bm w mb vb D) (t : Keeps w w') : Bm w' mb vb D := h.touch t (fun h => h) (fun h => h)
theorem blen_any {w : World} {mb vb : Nat} {D : Nat → Bool} (h : Bm w mb vb D) : Calls Try.prog 86 #[.pointer (some ⟨mb, 0, none⟩)] w fun e w' => e = .returned (.int .i64 25) ∧ w = w' := by
  have c1 := h.m.c 1 _ rfl
  clear h
  go_enter Try.func86, Try.ntmps86
  go_wp2_with fail
  go_ret
  exact ⟨rfl, rfl⟩
theorem bthere_any {w : World} {mb vb : Nat} {D : Nat → Bool} (h : Bm w mb vb D) (k : Nat) (hk : k < 25) : Calls Try.prog 75 #[.pointer (some ⟨mb, 0, none⟩), .int .i64 (k : Int)] w fun e w' => e = .returned (.bool true) ∧ w = w' := by
  have HL := Lib.hid (blen_any h)
  clear h
  go_enter Try.func75, Try.ntmps75
  go_wp2_with fail
  refine Calls.mono HL.out ?_
  rintro e w1 ⟨rfl, rfl⟩
  have h1 : (k : Int) < 25 := by omega
  go_wp2_with fail
  go_ret
  exact ⟨rfl, rfl⟩
theorem bit_and (v k : Nat) (hv : v < 18446744073709551616) : bits .and .u64 ((v : Int) / 2 ^ k) 1 = if v.testBit k then 1 else 0 := by
  have e : ((v : Int) / 2 ^ k) = ((v / 2 ^ k : Nat) : Int) := by simp
  have hle : v / 2 ^ k ≤ v := Nat.div_le_self ..
  rw [e, show (1 : Int) = ((1 : Nat) : Int) from rfl, u64_and_nat _ _ (by omega) (by omega), nat_mask1, Nat.testBit_eq_decide_div_mod_eq]
  by_cases h : v / 2 ^ k % 2 = 1
  · simp [h]
  · have : v / 2 ^ k % 2 = 0 := by omega
    simp [this]
theorem bhas_any {w : World} {mb vb : Nat} {D : Nat → Bool} (h : Bm w mb vb D) (k : Nat) (hk : k < 25) : Calls Try.prog 76 #[.pointer (some ⟨mb, 0, none⟩), .int .i64 (k : Int)] w fun e w' => e = .returned (.bool (D k)) ∧ w = w' := by
  have HT := Lib.hid (bthere_any h k hk)
  have c0 := h.m.c 0 _ rfl
  obtain ⟨v, v1, v2, v3⟩ := h.v
  have c1 := v2.c 0 _ rfl
  have g1 : Int.tdiv (k : Int) 64 = 0 := by rw [Int.tdiv_eq_ediv_of_nonneg (by omega)]; omega
  have g2 : Int.tmod (k : Int) 64 = k := by rw [Int.tmod_eq_emod_of_nonneg (by omega)]; omega
  have g4 : ((k : Int)).toNat = k := by omega
  have g5 : (k : Int) / 64 = 0 := by omega
  have g6 : (k : Int) % 64 = k := by omega
  have h1 : (k : Int) ≤ 64 := by omega
  have h0 : (0 : Int) ≤ k := by omega
  have g3 := bit_and v k (by omega)
  have hD := v3 k hk
  clear h v3 v2 v1
  cases hd : D k with
  | true =>
    rw [hd] at hD
    rw [hD, if_pos rfl] at g3
    clear hD hd
    go_enter Try.func76, Try.ntmps76
    go_wp2_with fail
    refine Calls.mono HT.out ?_
    rintro e w1 ⟨rfl, rfl⟩
    go_wp2_with fail
    go_ret
    exact ⟨rfl, rfl⟩
  | false =>
    rw [hd] at hD
    rw [hD, if_neg (by decide)] at g3
    clear hD hd
    go_enter Try.func76, Try.ntmps76
    go_wp2_with fail
    refine Calls.mono HT.out ?_
    rintro e w1 ⟨rfl, rfl⟩
    go_wp2_with fail
    go_ret
    exact ⟨rfl, rfl⟩
def setD (D : Nat → Bool) (k : Nat) : Nat → Bool := fun j => if j = k then true else D j
set_option maxRecDepth 100000 in
theorem bset_any {w : World} {mb vb : Nat} {D : Nat → Bool} (h : Bm w mb vb D) (k : Nat) (hk : k < 25) : Calls Try.prog 49 #[.pointer (some ⟨mb, 0, none⟩), .int .i64 (k : Int)] w fun e w' => (∃ b : Bool, e = .returned (.bool b)) ∧ Bm w' mb vb (setD D k) ∧ Only vb w w' := by
  have HT := Lib.hid (bthere_any h k hk)
  have HH := Lib.hid (bhas_any h k hk)
  have hm := Lib.hid h.m
  have c0 := h.m.c 0 _ rfl
  obtain ⟨v, v1, v2, v3⟩ := h.v
  have hv2 := Lib.hid v2
  have c1 := v2.c 0 _ rfl
  have f1 := v2.fz 0
  have g1 : Int.tdiv (k : Int) 64 = 0 := by rw [Int.tdiv_eq_ediv_of_nonneg (by omega)]; omega
  have g2 : Int.tmod (k : Int) 64 = k := by rw [Int.tmod_eq_emod_of_nonneg (by omega)]; omega
  have g4 : ((k : Int)).toNat = k := by omega
  have g5 : (k : Int) / 64 = 0 := by omega
  have g6 : (k : Int) % 64 = k := by omega
  have h1 : (k : Int) ≤ 64 := by omega
  have h0 : (0 : Int) ≤ k := by omega
  have hp : (2 : Nat) ^ k < 33554432 := Nat.lt_of_lt_of_le (Nat.pow_lt_pow_right (by decide) (show k < 25 by omega)) (by decide)
  have g7 : IntKind.u64.wrap ((2 : Int) ^ k) = ((2 ^ k : Nat) : Int) := by rw [IntKind.wrap_u64, show (2 : Int) ^ k = ((2 ^ k : Nat) : Int) by simp]; exact Int.emod_eq_of_lt (Int.natCast_nonneg _) (Int.ofNat_lt.2 (Nat.lt_trans hp (by decide)))
  have g8 : bits .or .u64 (v : Int) ((2 ^ k : Nat) : Int) = ((v ||| 2 ^ k : Nat) : Int) := u64_or_nat v (2 ^ k) (by omega) (by omega)
  have ho : v ||| 2 ^ k < 33554432 := Nat.or_lt_two_pow (n := 25) v1 hp
  have hbit : ∀ j, j < 25 → (v ||| 2 ^ k).testBit j = setD D k j := fun j hj => by
    unfold setD
    rw [Nat.testBit_or, v3 j hj, Nat.testBit_two_pow]
    by_cases e : j = k
    · simp [e]
    · rw [if_neg e]; simp [Ne.symm e]
  have HB := Lib.hid hbit
  have HO := Lib.hid ho
  have hne := Lib.hid h.ne
  have hself : ∀ b, D k = b → b = true → Bm w mb vb (setD D k) := fun b e1 e2 => ⟨h.m, ⟨v, v1, v2, fun j hj => by
    unfold setD
    by_cases e : j = k
    · rw [if_pos e, e, v3 k hk, e1, e2]
    · rw [if_neg e, v3 j hj]⟩, h.ne⟩
  have HS := Lib.hid hself
  generalize hq : ((2 ^ k : Nat) : Int) = q at *
  generalize ho2 : (v ||| 2 ^ k : Nat) = v' at *
  clear h v3 v2 v1 hp hbit ho hself hq ho2
  cases hd : D k with
  | true =>
    have HE := Lib.hid (HS.out _ hd rfl)
    rw [hd] at HH
    clear hd
    go_enter Try.func49, Try.ntmps49
    go_wp2_with fail
    refine Calls.mono HT.out ?_
    rintro e w1 ⟨rfl, rfl⟩
    go_wp2_with fail
    refine Calls.mono HH.out ?_
    rintro e w1 ⟨rfl, rfl⟩
    go_wp2_with fail
    go_ret
    exact ⟨⟨_, rfl⟩, HE.out, Touch.refl _ _⟩
  | false =>
    rw [hd] at HH
    clear hd
    go_enter Try.func49, Try.ntmps49
    go_wp2_with fail
    refine Calls.mono HT.out ?_
    rintro e w1 ⟨rfl, rfl⟩
    go_wp2_with fail
    refine Calls.mono HH.out ?_
    rintro e w1 ⟨rfl, rfl⟩
    have gw : IntKind.i64.wrap ((k : Int) / 64) = 0 := by rw [g5]; rfl
    have gw2 : IntKind.i64.wrap (Int.tdiv (k : Int) 64) = 0 := by rw [g1]; rfl
    clear g5 g1
    go_wp2_with fail
    go_still_tail 13, (by kernel_rfl)
    change wpList _ _ _ _ _ w.drew
    go_wp2_with fail
    go_ret
    exact ⟨⟨_, rfl⟩, ⟨(hm.out.other hne.out _).drew, ⟨v', HO.out, (hv2.out.set 0 _).drew, HB.out⟩, hne.out⟩, ((Only.refl vb w).set 0 _).drew⟩

end Go.Proofs.Ytabfbgkablbeeaa

namespace Go.Proofs.Ytabfbgkablbeeaa
open Go.RowKit

theorem info_u64 : (Try.prog.info? 125).map (fun i => (i.zero, i.size, i.bytes)) = some (some (.int .u64 0), 1, 8) := by kernel_rfl
theorem make_bits (w : World) : (Instr.makeSlice 116 (.int .i64 1) (.int .i64 1)).run Try.prog w = .ok (.slice (some ⟨w.heap.size, 0, none⟩) 1 1) (w.alloc (.cells #[.int .u64 0] 125)) := by
  obtain ⟨i0, hi, hz0, hz1, hz2⟩ := info_parts info_u64
  have h1 := run_make (P := Try.prog) w 116 125 i0 (.int .u64 0) (by kernel_rfl) hi hz0 .i64 .i64 1 1 (by omega) (Int.le_refl _) (by rw [hz2]; omega) (by omega)
  rw [h1, hz1]
  have e : madeCells (Value.int .u64 0).cells ((1 : Int).toNat * 1) = #[.int .u64 0] := by
    apply Array.ext
    · simp [madeCells]
    · intro j h1 h2
      have e2 : j = 0 := by simp at h2; omega
      subst e2
      simp [madeCells, Value.cells]
  rw [e]
  simp
theorem bnew_any (w : World) : Calls Try.prog 38 #[.int .i64 25] w fun e w' => ∃ mb vb, e = .returned (.pointer (some ⟨mb, 0, none⟩)) ∧ Bm w' mb vb (fun _ => false) ∧ (w.heap.size ≤ mb ∧ w.heap.size ≤ vb) ∧ Keeps w w' := by
  have hmk := make_bits
  have m1 : ∀ ts t w, (Builtin.min_ ts t #[.int .i64 25, .int .i64 4096]).run Try.prog w = .ok (.int .i64 25) w := fun ts t w => by
    rw [run_min_int2]; rfl
  have m2 : ∀ ts t w, (Builtin.max_ ts t #[.int .i64 0, .int .i64 25]).run Try.prog w = .ok (.int .i64 25) w := fun ts t w => by
    rw [run_max_int2]; rfl
  go_enter Try.func38, Try.ntmps38
  go_wp2_with fail
  go_ret
  refine ⟨w.heap.size + 1, w.heap.size, rfl, ⟨?_, ⟨0, by decide, (BL.new1 w 125 _ [.int .u64 0] _ rfl rfl).alloc _, fun k _ => by simp⟩, by omega⟩, ⟨by omega, Nat.le_refl _⟩, ((Touch.refl _ w).alloc _).alloc _⟩
  exact BL.new1 _ 118 _ (bmL w.heap.size) _ (by simp) rfl
theorem zero_u64 (w : World) : (zeroValue 125).run Try.prog w = .ok (.int .u64 0) w := by kernel_rfl
theorem bwipe_any {w : World} {mb vb : Nat} {D : Nat → Bool} (h : Bm w mb vb D) : Calls Try.prog 62 #[.pointer (some ⟨mb, 0, none⟩)] w fun e w' => e = .returned (.tuple #[]) ∧ Bm w' mb vb (fun _ => false) ∧ Only vb w w' := by
  obtain ⟨v, v1, v2, v3⟩ := h.v
  have c0 := h.m.c 0 _ rfl
  have c1 := v2.c 0 _ rfl
  have f1 := v2.fz 0
  have hcl : ∀ ty, (Builtin.clear_ #[116] ty #[.slice (some ⟨vb, 0, none⟩) 1 1]).run Try.prog w = .ok (.tuple #[]) (w.setCells vb 0 (List.replicate 1 (.int .u64 0))) :=
    fun ty => Lib.run_clear_slice w 116 125 ty (.int .u64 0) Try.underlying116 zero_u64 rfl rfl vb 0 1 1 (by decide) (fun j hj => by cases (show j = 0 by omega); rw [c1]; rfl) (fun j hj => by cases (show j = 0 by omega); exact f1)
  have e : w.setCells vb 0 (List.replicate 1 (.int .u64 0)) = w.setCell ⟨vb, 0, none⟩ (.int .u64 0) := rfl
  rw [e] at hcl
  have hm := Lib.hid h.m
  have hne := Lib.hid h.ne
  have hv2 := Lib.hid v2
  clear h v3 v2 v1 c1 f1 e
  go_enter Try.func62, Try.ntmps62
  go_wp2_with fail
  go_returns
  exact ⟨rfl, ⟨hm.out.other hne.out _, ⟨0, by decide, hv2.out.set 0 _, fun k _ => by simp⟩, hne.out⟩, (Only.refl vb w).set 0 _⟩

/-- A table of the cards from 1 to 401. -/
structure Cd (w : World) (tb mb vb : Nat) (D : Nat → Bool) : Prop where
  t : BL w tb 91 [.pointer (some ⟨mb, 0, none⟩), .int .i64 1, .int .i64 401]
  b : Bm w mb vb D
  n1 : tb ≠ mb
  n2 : tb ≠ vb
theorem Cd.touch {S : Nat → Prop} {w w' : World} {tb mb vb : Nat} {D : Nat → Bool} (h : Cd w tb mb vb D) (t : Touch S w w') (h0 : ¬ S tb) (h1 : ¬ S mb) (h2 : ¬ S vb) : Cd w' tb mb vb D := ⟨h.t.touch t h0, h.b.touch t h1 h2, h.n1, h.n2⟩
theorem Cd.keep {w w' : World} {tb mb vb : Nat} {D : Nat → Bool} (h : Cd w tb mb vb D) (t : Keeps w w') : Cd w' tb mb vb D := h.touch t (fun h => h) (fun h => h) (fun h => h)
theorem Cd.lt {w : World} {tb mb vb : Nat} {D : Nat → Bool} (h : Cd w tb mb vb D) : tb < w.heap.size ∧ mb < w.heap.size ∧ vb < w.heap.size := ⟨h.t.lt, h.b.m.lt, by obtain ⟨v, _, v2, _⟩ := h.b.v; exact v2.lt⟩
theorem cdnew_any (w : World) : Calls Try.prog 14 #[.int .i64 1, .int .i64 401] w fun e w' => ∃ tb mb vb, e = .returned (.pointer (some ⟨tb, 0, none⟩)) ∧ Cd w' tb mb vb (fun _ => false) ∧ (w.heap.size ≤ tb ∧ w.heap.size ≤ mb ∧ w.heap.size ≤ vb) ∧ Keeps w w' := by
  have HB := Lib.hid bnew_any
  have m1 : ∀ ts t w, (Builtin.min_ ts t #[.int .i64 1, .int .i64 4096]).run Try.prog w = .ok (.int .i64 1) w := fun ts t w => by
    rw [run_min_int2]; rfl
  have m2 : ∀ ts t w, (Builtin.max_ ts t #[.int .i64 0, .int .i64 1]).run Try.prog w = .ok (.int .i64 1) w := fun ts t w => by
    rw [run_max_int2]; rfl
  have m3 : ∀ ts t w, (Builtin.min_ ts t #[.int .i64 401, .int .i64 4096]).run Try.prog w = .ok (.int .i64 401) w := fun ts t w => by
    rw [run_min_int2]; rfl
  have m4 : ∀ ts t w, (Builtin.max_ ts t #[.int .i64 1, .int .i64 401]).run Try.prog w = .ok (.int .i64 401) w := fun ts t w => by
    rw [run_max_int2]; rfl
  go_enter Try.func14, Try.ntmps14
  go_wp2_with fail
  refine Calls.mono (HB.out _) ?_
  rintro e w1 ⟨mb, vb, rfl, hB, ⟨l1, l2⟩, k1⟩
  have hb := Lib.hid hB
  clear hB
  go_wp2_with fail
  go_ret
  have h1 := hb.out.m.lt
  have h2 : vb < w1.heap.size := by obtain ⟨v, _, v2, _⟩ := hb.out.v; exact v2.lt
  refine ⟨w1.heap.size, mb, vb, rfl, ⟨?_, hb.out.touch ((Touch.refl (fun _ => False) w1).alloc _) (fun h => h) (fun h => h), by omega, by omega⟩, ⟨k1.size, l1, l2⟩, k1.alloc _⟩
  exact BL.new1 _ 91 _ [.pointer (some ⟨mb, 0, none⟩), .int .i64 1, .int .i64 401] _ rfl rfl
/-- The number of an address's card. -/
def cardN (a : Int) : Nat := ((a - 1) / 16).toNat
theorem card_yes {w : World} {tb mb vb : Nat} {D : Nat → Bool} (h : Cd w tb mb vb D) (a : Int) (h1 : 1 ≤ a) (h2 : a < 401) : Calls Try.prog 48 #[.pointer (some ⟨tb, 0, none⟩), .int .i64 a] w fun e w' => e = .returned (.int .i64 (cardN a : Nat)) ∧ w = w' := by
  have c1 := h.t.c 1 _ rfl
  have c2 := h.t.c 2 _ rfl
  have d1 : decide (a < 1) = false := decide_eq_false (by omega)
  have d2 : decide (a ≥ 401) = false := decide_eq_false (by omega)
  have d3 : decide (401 ≤ a) = false := decide_eq_false (by omega)
  have g1 : IntKind.i64.wrap (a - 1) = a - 1 := IntWalk.i64_in _ ⟨by omega, by omega⟩
  have g0 : Int.tdiv (a - 1) 16 = ((cardN a : Nat) : Int) := by unfold cardN; rw [Int.tdiv_eq_ediv_of_nonneg (by omega)]; omega
  have g2 : IntKind.i64.wrap (Int.tdiv (a - 1) 16) = ((cardN a : Nat) : Int) := by rw [g0]; exact IntWalk.i64_in _ (by unfold cardN; omega)
  have g3 : IntKind.i64.wrap ((a - 1) / 16) = ((cardN a : Nat) : Int) := by rw [← g2, Int.tdiv_eq_ediv_of_nonneg (by omega)]
  clear g0 h
  generalize cardN a = z at *
  go_enter Try.func48, Try.ntmps48
  go_wp2_with fail
  go_ret
  exact ⟨by first | rfl | (rw [g2]) | (rw [g3]), rfl⟩
theorem cardN_lt {a : Int} (h2 : a < 401) : cardN a < 25 := by unfold cardN; omega
theorem touch_yes {w : World} {tb mb vb : Nat} {D : Nat → Bool} (h : Cd w tb mb vb D) (a : Int) (h1 : 1 ≤ a) (h2 : a < 401) : Calls Try.prog 20 #[.pointer (some ⟨tb, 0, none⟩), .int .i64 a] w fun e w' => (∃ b : Bool, e = .returned (.bool b)) ∧ Cd w' tb mb vb (setD D (cardN a)) ∧ Only vb w w' := by
  have HC := Lib.hid (card_yes h a h1 h2)
  have HS := Lib.hid (bset_any h.b (cardN a) (cardN_lt h2))
  have HH := Lib.hid h
  have c0 := h.t.c 0 _ rfl
  clear h
  generalize cardN a = z at *
  have hz : (0 : Int) ≤ z := by omega
  have hz2 : (z : Int) ≥ 0 := hz
  go_enter Try.func20, Try.ntmps20
  go_wp2_with fail
  refine Calls.mono HC.out ?_
  rintro e w1 ⟨rfl, rfl⟩
  go_wp2_with fail
  refine Calls.mono HS.out ?_
  rintro e w2 ⟨⟨b, rfl⟩, hB, o2⟩
  have hb := Lib.hid hB
  clear hB
  go_wp2_with fail
  go_ret
  exact ⟨⟨_, rfl⟩, ⟨HH.out.t.touch o2 HH.out.n2, hb.out, HH.out.n1, HH.out.n2⟩, o2⟩
theorem dirty_yes {w : World} {tb mb vb : Nat} {D : Nat → Bool} (h : Cd w tb mb vb D) (a : Int) (h1 : 1 ≤ a) (h2 : a < 401) : Calls Try.prog 56 #[.pointer (some ⟨tb, 0, none⟩), .int .i64 a] w fun e w' => e = .returned (.bool (D (cardN a))) ∧ w = w' := by
  have HC := Lib.hid (card_yes h a h1 h2)
  have HS := Lib.hid (bhas_any h.b (cardN a) (cardN_lt h2))
  have c0 := h.t.c 0 _ rfl
  clear h
  generalize cardN a = z at *
  have hz : (0 : Int) ≤ z := by omega
  have hz2 : (z : Int) ≥ 0 := hz
  go_enter Try.func56, Try.ntmps56
  go_wp2_with fail
  refine Calls.mono HC.out ?_
  rintro e w1 ⟨rfl, rfl⟩
  go_wp2_with fail
  refine Calls.mono HS.out ?_
  rintro e w2 ⟨rfl, rfl⟩
  go_wp2_with fail
  go_ret
  exact ⟨rfl, rfl⟩
theorem cwipe_any {w : World} {tb mb vb : Nat} {D : Nat → Bool} (h : Cd w tb mb vb D) : Calls Try.prog 28 #[.pointer (some ⟨tb, 0, none⟩)] w fun e w' => e = .returned (.tuple #[]) ∧ Cd w' tb mb vb (fun _ => false) ∧ Only vb w w' := by
  have HW := Lib.hid (bwipe_any h.b)
  have HH := Lib.hid h
  have c0 := h.t.c 0 _ rfl
  clear h
  go_enter Try.func28, Try.ntmps28
  go_wp2_with fail
  refine Calls.mono HW.out ?_
  rintro e w2 ⟨rfl, hB, o2⟩
  have hb := Lib.hid hB
  clear hB
  go_wp2_with fail
  go_returns
  exact ⟨rfl, ⟨HH.out.t.touch o2 HH.out.n2, hb.out, HH.out.n1, HH.out.n2⟩, o2⟩

end Go.Proofs.Ytabfbgkablbeeaa
