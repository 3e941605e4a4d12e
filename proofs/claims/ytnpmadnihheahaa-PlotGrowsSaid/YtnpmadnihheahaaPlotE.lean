/- plot's around by contract. -/
import Derived.Test.YtnpmadnihheahaaPlotD
import Derived.Test.YtnpmadnihheahaaPlot4
namespace Go.Proofs.Ytnpmadnihheahaa
open Go.RowKit

theorem conv_fi (x : Int) (h1 : -33 ≤ x) (h2 : x ≤ 33) (w : World) : (convert 32 3 (.float .f64 (fB x))).run Try.prog w = .ok (.int .i64 x) w :=
  run_convert_float_int w _ _ .f64 .i64 _ _ (by kernel_rfl) (by kernel_rfl) (toInt x h1 h2)
theorem run_mn (ts : Array TypeId) (t : TypeId) (x y : Int) (w : World) : (Builtin.min_ ts t #[.int .i64 x, .int .i64 y]).run Try.prog w = .ok (.int .i64 (mn x y)) w := by
  rw [run_min_int2]; rfl
theorem run_mx (ts : Array TypeId) (t : TypeId) (x y : Int) (w : World) : (Builtin.max_ ts t #[.int .i64 x, .int .i64 y]).run Try.prog w = .ok (.int .i64 (mx x y)) w := by
  rw [run_max_int2]; rfl
theorem run_ar (ar : Array Value) (w : World) : (callFunc 26 ar).run Try.prog w = .ok (.enter 26 ar) w := by kernel_rfl
def bxF (b : Bx) : Nat → Value := fun j => if j = 0 then .int .i64 b.l else if j = 1 then .int .i64 b.r else if j = 2 then .int .i64 b.d else .int .i64 b.u
def bxV (b : Bx) : Value := .agg #[.int .i64 b.l, .int .i64 b.r, .int .i64 b.d, .int .i64 b.u]
def ArI (bm bb : Nat) (many : Nat) (j : Nat) (w : World) : Prop :=
  w.cell? ⟨bm, 0, none⟩ = some (.int .i64 (many : Int)) ∧ Blk w bb 54 4 (bxF (bxN (min j many)))

set_option maxHeartbeats 1000000 in
theorem ar_step (bm bb : Nat) (many j : Nat) (hne : bm ≠ bb) (w : World) (h : ArI bm bb many j w) (hj : j < 4096) :
    Calls Try.prog 26 (#[.int .i64 (j : Int), .complex .f64 (fB (St j).x) (fB (St j).y)] ++ #[.pointer (some ⟨bm, 0, none⟩), .pointer (some ⟨bb, 0, none⟩)]) w fun e w' =>
      e = .returned (.bool (decide (j < many))) ∧ ArI bm bb many (j + 1) w' ∧ Touch (fun k => k = bb) w w' := by
  obtain ⟨hm, hb⟩ := h
  have q := sp j (by omega)
  obtain ⟨q1, q2, q3, q4, _⟩ := q
  by_cases hlt : j < many
  · have hmin : min j many = j := by omega
    have hmin' : min (j + 1) many = j + 1 := by omega
    unfold ArI
    rw [hmin] at hb
    rw [hmin', decide_eq_true hlt]
    have c0 : w.cell? ⟨bb, 0, none⟩ = some (.int .i64 (bxN j).l) := hb.cell (j := 0) (by omega)
    have c1 : w.cell? ⟨bb, 1, none⟩ = some (.int .i64 (bxN j).r) := hb.cell (j := 1) (by omega)
    have c2 : w.cell? ⟨bb, 2, none⟩ = some (.int .i64 (bxN j).d) := hb.cell (j := 2) (by omega)
    have c3 : w.cell? ⟨bb, 3, none⟩ = some (.int .i64 (bxN j).u) := hb.cell (j := 3) (by omega)
    have f0 := hb.frozen 0
    have f1 := hb.frozen 1
    have f2 := hb.frozen 2
    have f3 := hb.frozen 3
    have v1 := conv_fi (St j).x (by omega) (by omega)
    have v2 := conv_fi (St j).y (by omega) (by omega)
    have hfin : Blk ((((w.setCell ⟨bb, 0, none⟩ (.int .i64 (mn (bxN j).l (St j).x))).setCell ⟨bb, 1, none⟩ (.int .i64 (mx (bxN j).r (St j).x))).setCell ⟨bb, 2, none⟩ (.int .i64 (mn (bxN j).d (St j).y))).setCell ⟨bb, 3, none⟩ (.int .i64 (mx (bxN j).u (St j).y))) bb 54 4 (bxF (bxN (j + 1))) := by
      refine ((((hb.set 0 _).set 1 _).set 2 _).set 3 _).congr (fun i hi => ?_)
      rcases (by omega : i = 0 ∨ i = 1 ∨ i = 2 ∨ i = 3) with rfl | rfl | rfl | rfl <;> simp [upd, bxF, bxN, Bx.put]
    have hmm : ((((w.setCell ⟨bb, 0, none⟩ (.int .i64 (mn (bxN j).l (St j).x))).setCell ⟨bb, 1, none⟩ (.int .i64 (mx (bxN j).r (St j).x))).setCell ⟨bb, 2, none⟩ (.int .i64 (mn (bxN j).d (St j).y))).setCell ⟨bb, 3, none⟩ (.int .i64 (mx (bxN j).u (St j).y))).cell? ⟨bm, 0, none⟩ = some (.int .i64 (many : Int)) := by
      rw [← hm]
      exact World.cell?_of_block (((((Only.refl bb w).set _ _).set _ _).set _ _).set _ _ |>.block bm (World.block_lt_of_cell? _ _ hm) hne)
    have HF := Lib.hid hfin
    have HM := Lib.hid hmm
    clear hb hfin hmm q1 q2 q3 q4 hmin hmin'
    generalize fB (St j).x = xx at *
    generalize fB (St j).y = yy at *
    generalize (St j).x = x at *
    generalize (St j).y = y at *
    generalize bxN (j + 1) = b' at *
    generalize bxN j = b at *
    obtain ⟨l, r, d, u⟩ := b
    dsimp only at *
    have m1 := fun ts t => run_mn ts t l x
    have m2 := fun ts t => run_mx ts t r x
    have m3 := fun ts t => run_mn ts t d y
    have m4 := fun ts t => run_mx ts t u y
    go_enter Try.func26, Try.ntmps26
    go_wp2_with fail
    go_ret
    exact ⟨rfl, ⟨HM.out, HF.out⟩, ((((Only.refl bb w).set _ _).set _ _).set _ _).set _ _⟩
  · have hmin : min j many = many := by omega
    have hmin' : min (j + 1) many = many := by omega
    unfold ArI
    rw [hmin] at hb
    rw [hmin', decide_eq_false hlt]
    have HB := Lib.hid hb
    clear hb hmin hmin' q1 q2 q3 q4
    generalize fB (St j).x = xx at *
    generalize fB (St j).y = yy at *
    have hge : ¬ ((j : Int) < (many : Int)) := by omega
    go_enter Try.func26, Try.ntmps26
    go_wp2_with fail
    go_ret
    exact ⟨rfl, ⟨hm, HB.out⟩, Only.refl bb w⟩

theorem zero_box (w : World) : (zeroValue 54).run Try.prog w = .ok (.agg #[.int .i64 0, .int .i64 0, .int .i64 0, .int .i64 0]) w := by kernel_rfl

set_option maxHeartbeats 1000000 in
theorem around_any (many : Nat) (w : World) (hm : many ≤ 4096) :
    Calls Try.prog 23 #[.int .i64 (many : Int)] w fun e w' => e = .returned (bxV (bxN many)) ∧ Keeps w w' := by
  have hz := zero_box
  unfold bxV at *
  go_enter Try.func23, Try.ntmps23
  go_wp2_with fail
  have b0 : Blk ((w.alloc (.cells #[.int .i64 (many : Int)] 3)).alloc (.cells #[.int .i64 0, .int .i64 0, .int .i64 0, .int .i64 0] 54)) (w.heap.size + 1) 54 4 (bxF (bxN 0)) := by
    have := Blk.made (w.alloc (.cells #[.int .i64 (many : Int)] 3)) 4 54 (bxF (bxN 0)) #[.int .i64 0, .int .i64 0, .int .i64 0, .int .i64 0] rfl (fun j hj => by rcases (by omega : j = 0 ∨ j = 1 ∨ j = 2 ∨ j = 3) with rfl | rfl | rfl | rfl <;> rfl)
    simpa using this
  have b1 := Blk.alloc b0 (.cells #[.int .i64 0, .int .i64 0, .int .i64 0, .int .i64 0] 54)
  have b2 : Blk (((w.alloc (.cells #[.int .i64 (many : Int)] 3)).alloc (.cells #[.int .i64 0, .int .i64 0, .int .i64 0, .int .i64 0] 54)).alloc (.cells #[.int .i64 0, .int .i64 0, .int .i64 0, .int .i64 0] 54)) (w.heap.size + 1 + 1) 54 4 (bxF (bxN (min 0 many))) := by
    have := Blk.made ((w.alloc (.cells #[.int .i64 (many : Int)] 3)).alloc (.cells #[.int .i64 0, .int .i64 0, .int .i64 0, .int .i64 0] 54)) 4 54 (bxF (bxN 0)) #[.int .i64 0, .int .i64 0, .int .i64 0, .int .i64 0] rfl (fun j hj => by rcases (by omega : j = 0 ∨ j = 1 ∨ j = 2 ∨ j = 3) with rfl | rfl | rfl | rfl <;> rfl)
    rw [Nat.zero_min]
    simpa using this
  have c0 : (((w.alloc (.cells #[.int .i64 (many : Int)] 3)).alloc (.cells #[.int .i64 0, .int .i64 0, .int .i64 0, .int .i64 0] 54)).alloc (.cells #[.int .i64 0, .int .i64 0, .int .i64 0, .int .i64 0] 54)).cell? ⟨w.heap.size, 0, none⟩ = some (.int .i64 (many : Int)) := by
    rw [World.cell?_alloc_lt _ _ _ (by simp; omega), World.cell?_alloc_lt _ _ _ (by simp)]
    exact cell_of_row _ _ 0 _ _ _ (heap_alloc_new w _)
  have K0 : Keeps w (((w.alloc (.cells #[.int .i64 (many : Int)] 3)).alloc (.cells #[.int .i64 0, .int .i64 0, .int .i64 0, .int .i64 0] 54)).alloc (.cells #[.int .i64 0, .int .i64 0, .int .i64 0, .int .i64 0] 54)) := (((Touch.refl _ w).alloc _).alloc _).alloc _
  refine (walk_any 26 _ (fun j => decide (j < many)) (ArI w.heap.size (w.heap.size + 1 + 1) many) (fun k => k = w.heap.size + 1 + 1) _ run_ar ⟨c0, b2⟩ (fun j wx hj _ hI _ => ar_step _ _ many j (by omega) wx hI hj)).mono ?_
  rintro e w1 ⟨rfl, k1, m, hm', ⟨_, hb1⟩, hm1, hm2⟩
  have hmn : min m many = many := by
    rcases Nat.lt_or_ge m 4096 with h | h
    · obtain ⟨h3, h4⟩ := hm2 h
      have := of_decide_eq_false h4
      omega
    · omega
  rw [hmn] at hb1
  have K1 : Keeps w w1 := K0.new k1 (by omega)
  have b3 := Blk.touch b1 k1 (by omega)
  clear hm1 hm2 b0 b1 b2 c0 K0 k1 hmn hm' hz
  have d0 : w1.cell? ⟨w.heap.size + 1 + 1, 0, none⟩ = some (.int .i64 (bxN many).l) := hb1.cell (j := 0) (by omega)
  have d1 : w1.cell? ⟨w.heap.size + 1 + 1, 1, none⟩ = some (.int .i64 (bxN many).r) := hb1.cell (j := 1) (by omega)
  have d2 : w1.cell? ⟨w.heap.size + 1 + 1, 2, none⟩ = some (.int .i64 (bxN many).d) := hb1.cell (j := 2) (by omega)
  have d3 : w1.cell? ⟨w.heap.size + 1 + 1, 3, none⟩ = some (.int .i64 (bxN many).u) := hb1.cell (j := 3) (by omega)
  have e0 := b3.cell (j := 0) (by omega)
  have e1 := b3.cell (j := 1) (by omega)
  have e2 := b3.cell (j := 2) (by omega)
  have e3 := b3.cell (j := 3) (by omega)
  have f0 := b3.frozen 0
  have f1 := b3.frozen 1
  have f2 := b3.frozen 2
  have f3 := b3.frozen 3
  have hrb : w.heap.size ≤ w.heap.size + 1 := by omega
  generalize w.heap.size + 1 + 1 = bb at *
  generalize w.heap.size + 1 = rb at *
  have b4 := (((b3.set 0 (.int .i64 (bxN many).l)).set 1 (.int .i64 (bxN many).r)).set 2 (.int .i64 (bxN many).d)).set 3 (.int .i64 (bxN many).u)
  have g0 := b4.cell (j := 0) (by omega)
  have g1 := b4.cell (j := 1) (by omega)
  have g2 := b4.cell (j := 2) (by omega)
  have g3 := b4.cell (j := 3) (by omega)
  simp [upd] at g0 g1 g2 g3
  clear b3 b4 hb1
  go_wp2_with fail
  refine bodyPost_ret (v := .agg #[.int .i64 (bxN many).l, .int .i64 (bxN many).r, .int .i64 (bxN many).d, .int .i64 (bxN many).u]) (by simp [results, Try.results23, go_sem, g0, g1, g2, g3]) rfl ?_
  exact ⟨rfl, K1.new (((((Only.refl rb w1).set _ _).set _ _).set _ _).set _ _) hrb⟩

end Go.Proofs.Ytnpmadnihheahaa
