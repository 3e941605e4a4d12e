/- Place and At by contract. -/
import Derived.Test.YtnpmadnihheahaaPlot1
import Derived.Deep.QuietTactic
import Derived.BigQuiet
namespace Go.Proofs.Ytnpmadnihheahaa
open Go.RowKit

@[local go_sem] theorem run_store_complex {P : Program} {w : World} {a : Addr} {m : Mode} (k : FloatKind) (x y : Nat) : (store a (.complex k x y) m).run P w = stored P w a (.complex k x y) m := run_store P w a _ m rfl
theorem run_pl (ar : Array Value) (w : World) : (callFunc 21 ar).run Try.prog w = .ok (.enter 21 ar) w := by kernel_rfl
theorem run_at (ar : Array Value) (w : World) : (callFunc 22 ar).run Try.prog w = .ok (.enter 22 ar) w := by kernel_rfl

/-- The place of a cell. -/
def posV (n : Nat) : Value := .complex .f64 (fB (St n).x) (fB (St n).y)
def PlI (bo bn : Nat) (n : Int) (j : Nat) (w : World) : Prop :=
  Blk w bo 23 1 (fun _ => if j = 0 then .complex .f64 0 0 else posV (j - 1)) ∧ w.cell? ⟨bn, 0, none⟩ = some (.int .i64 n)

theorem pl_step (bo bn : Nat) (n : Int) (j : Nat) (hne : bn ≠ bo) (w : World) (h : PlI bo bn n j w) :
    Calls Try.prog 21 (#[.int .i64 (j : Int), .complex .f64 (fB (St j).x) (fB (St j).y)] ++ #[.pointer (some ⟨bo, 0, none⟩), .pointer (some ⟨bn, 0, none⟩)]) w fun e w' =>
      e = .returned (.bool (decide ((j : Int) < n))) ∧ PlI bo bn n (j + 1) w' ∧ Touch (fun k => k = bo) w w' := by
  obtain ⟨hb, hn⟩ := h
  have c0 := hb.cell (j := 0) (by omega)
  have f0 := hb.frozen 0
  have hb' : Blk (w.setCell ⟨bo, 0, none⟩ (posV j)) bo 23 1 (fun _ => if j + 1 = 0 then .complex .f64 0 0 else posV (j + 1 - 1)) := by
    refine (hb.set 0 (posV j)).congr (fun i hi => ?_)
    cases (show i = 0 by omega)
    simp [upd]
  have hn' : (w.setCell ⟨bo, 0, none⟩ (posV j)).cell? ⟨bn, 0, none⟩ = some (.int .i64 n) := by
    rw [← hn]; exact World.cell?_of_block (Below.heap_setCell _ _ _ _ hne)
  unfold posV at hb' hn'
  generalize fB (St j).x = a at *
  generalize fB (St j).y = b at *
  have HB := Lib.hid hb'
  clear hb' hb
  go_enter Try.func21, Try.ntmps21
  go_wp2_with fail
  go_ret
  refine ⟨rfl, ⟨HB.out, hn'⟩, (Only.refl bo w).set _ _⟩

set_option maxRecDepth 100000 in
set_option maxHeartbeats 1000000 in
theorem place_any (n : Int) (w : World) (h0 : 0 ≤ n) (h1 : n < 4096) :
    Calls Try.prog 12 #[.int .i64 n] w fun e w' => e = .returned (.tuple #[.complex .f64 (fB (St n.toNat).x) (fB (St n.toNat).y), .int .i64 0]) ∧ Keeps w w' := by
  go_enter Try.func12, Try.ntmps12
  go_wp2_with fail
  have hb : Blk ((w.alloc (.cells #[.int .i64 n] 3)).alloc (.cells #[.complex .f64 0 0] 23)) (w.heap.size + 1) 23 1 (fun _ => if 0 = 0 then .complex .f64 0 0 else posV (0 - 1)) := by
    have := Blk.made (w.alloc (.cells #[.int .i64 n] 3)) 1 23 (fun _ => if 0 = 0 then .complex .f64 0 0 else posV (0 - 1)) #[.complex .f64 0 0] rfl (fun j hj => by cases (show j = 0 by omega); rfl)
    simpa using this
  have hn : ((w.alloc (.cells #[.int .i64 n] 3)).alloc (.cells #[.complex .f64 0 0] 23)).cell? ⟨w.heap.size, 0, none⟩ = some (.int .i64 n) := by
    rw [World.cell?_alloc_lt _ _ _ (by simp)]
    exact cell_of_row _ _ 0 _ _ _ (heap_alloc_new w _)
  have hK : Keeps w ((w.alloc (.cells #[.int .i64 n] 3)).alloc (.cells #[.complex .f64 0 0] 23)) := ((Touch.refl _ w).alloc _).alloc _
  refine (walk_any 21 _ (fun j => decide ((j : Int) < n)) (PlI (w.heap.size + 1) w.heap.size n) (fun k => k = w.heap.size + 1) _ run_pl ⟨hb, hn⟩ (fun j wx _ _ hI _ => pl_step _ _ n j (by omega) wx hI)).mono ?_
  rintro e w1 ⟨rfl, k1, m, hm, ⟨hb1, _⟩, hm1, hm2⟩
  have hmn : m = n.toNat + 1 := by
    rcases Nat.lt_or_ge m 4096 with h | h
    · obtain ⟨h3, h4⟩ := hm2 h
      have h4' := of_decide_eq_false h4
      by_cases h5 : 2 ≤ m
      · have h6 := of_decide_eq_true (hm1 (m - 2) (by omega))
        omega
      · omega
    · have h6 := of_decide_eq_true (hm1 (m - 2) (by omega))
      omega
  subst hmn
  have c1 : w1.cell? ⟨w.heap.size + 1, 0, none⟩ = some (posV n.toNat) := by
    have := hb1.cell (j := 0) (by omega)
    simpa using this
  have K1 : Keeps w w1 := hK.new k1 (by omega)
  unfold posV at c1
  clear hb1 hb hn hK k1 hm hm1 hm2
  go_wp2_with fail
  go_ret2
  exact ⟨rfl, K1⟩

/-- Does the cell j lie there? -/
def mt (a b : Nat) (j : Nat) : Bool := (FloatKind.f64.format.order (fB (St j).x) a == some .eq) && (FloatKind.f64.format.order (fB (St j).y) b == some .eq)
def AtI (bz bo be : Nat) (a b : Nat) (j : Nat) (w : World) : Prop :=
  w.cell? ⟨bz, 0, none⟩ = some (.complex .f64 a b) ∧
  Blk w bo 3 1 (fun _ => .int .i64 (if 0 < j ∧ mt a b (j - 1) = true then ((j - 1 : Nat) : Int) else 0)) ∧
  Blk w be 24 1 (fun _ => .int .i64 (if 0 < j ∧ mt a b (j - 1) = true then 0 else 2))

theorem at_step (bz bo be a b : Nat) (j : Nat) (h1 : bz ≠ bo) (h2 : bz ≠ be) (h3 : bo ≠ be) (w : World) (hall : ∀ i, i < j → (!mt a b i) = true) (h : AtI bz bo be a b j w) :
    Calls Try.prog 22 (#[.int .i64 (j : Int), .complex .f64 (fB (St j).x) (fB (St j).y)] ++ #[.pointer (some ⟨bz, 0, none⟩), .pointer (some ⟨bo, 0, none⟩), .pointer (some ⟨be, 0, none⟩)]) w fun e w' =>
      e = .returned (.bool (!mt a b j)) ∧ AtI bz bo be a b (j + 1) w' ∧ Touch (fun k => k = bo ∨ k = be) w w' := by
  obtain ⟨hz, ho, he⟩ := h
  have hno : ¬ (0 < j ∧ mt a b (j - 1) = true) := fun q => by have := hall (j - 1) (by omega); rw [q.2] at this; cases this
  rw [if_neg hno] at ho he
  clear hno hall
  have c0 := ho.cell (j := 0) (by omega)
  have f0 := ho.frozen 0
  have c1 := he.cell (j := 0) (by omega)
  have f1 := he.frozen 0
  cases hm : mt a b j with
  | true =>
    have hz' : ((w.setCell ⟨bo, 0, none⟩ (.int .i64 (j : Int))).setCell ⟨be, 0, none⟩ (.int .i64 0)).cell? ⟨bz, 0, none⟩ = some (.complex .f64 a b) := by
      rw [← hz]; exact World.cell?_of_block ((Below.heap_setCell _ _ _ _ h2).trans (Below.heap_setCell _ _ _ _ h1))
    have ho' : Blk ((w.setCell ⟨bo, 0, none⟩ (.int .i64 (j : Int))).setCell ⟨be, 0, none⟩ (.int .i64 0)) bo 3 1 (fun _ => .int .i64 (if 0 < j + 1 ∧ mt a b (j + 1 - 1) = true then ((j + 1 - 1 : Nat) : Int) else 0)) := by
      refine Blk.congr ((ho.set 0 (.int .i64 (j : Int))).other (p := ⟨be, 0, none⟩) h3 _) (fun i hi => ?_)
      cases (show i = 0 by omega)
      simp [upd, hm]
    have he' : Blk ((w.setCell ⟨bo, 0, none⟩ (.int .i64 (j : Int))).setCell ⟨be, 0, none⟩ (.int .i64 0)) be 24 1 (fun _ => .int .i64 (if 0 < j + 1 ∧ mt a b (j + 1 - 1) = true then 0 else 2)) := by
      refine Blk.congr ((he.other (p := ⟨bo, 0, none⟩) (Ne.symm h3) _).set 0 (.int .i64 0)) (fun i hi => ?_)
      cases (show i = 0 by omega)
      simp [upd, hm]
    have HO := Lib.hid ho'
    have HE := Lib.hid he'
    have hm' := hm
    unfold mt at hm'
    clear ho' he' ho he hm
    generalize fB (St j).x = x at *
    generalize fB (St j).y = y at *
    go_enter Try.func22, Try.ntmps22
    go_wp2_with fail
    go_ret
    exact ⟨rfl, ⟨hz', HO.out, HE.out⟩, ((Touch.refl (fun k => k = bo ∨ k = be) w).setCell (p := ⟨bo, 0, none⟩) (fun _ => .inl rfl) _).setCell (p := ⟨be, 0, none⟩) (fun _ => .inr rfl) _⟩
  | false =>
    have ho' : Blk w bo 3 1 (fun _ => .int .i64 (if 0 < j + 1 ∧ mt a b (j + 1 - 1) = true then ((j + 1 - 1 : Nat) : Int) else 0)) := by
      refine ho.congr (fun i hi => ?_)
      simp [hm]
    have he' : Blk w be 24 1 (fun _ => .int .i64 (if 0 < j + 1 ∧ mt a b (j + 1 - 1) = true then 0 else 2)) := by
      refine he.congr (fun i hi => ?_)
      simp [hm]
    have HO := Lib.hid ho'
    have HE := Lib.hid he'
    have hm' := hm
    unfold mt at hm'
    clear ho' he' ho he hm
    generalize fB (St j).x = x at *
    generalize fB (St j).y = y at *
    go_enter Try.func22, Try.ntmps22
    go_wp2_with fail
    go_ret
    exact ⟨rfl, ⟨hz, HO.out, HE.out⟩, Touch.refl _ w⟩

/-- What At tells of a place: the first cell that lies there, or none. -/
def AtR (a b : Nat) (r f : Int) : Prop :=
  (f = 0 ∧ ∃ i : Nat, r = (i : Int) ∧ i < 4096 ∧ mt a b i = true ∧ ∀ j, j < i → mt a b j = false) ∨ (f = 2 ∧ r = 0 ∧ ∀ j, j < 4096 → mt a b j = false)

set_option maxRecDepth 100000 in
set_option maxHeartbeats 1000000 in
theorem at_any (a b : Nat) (w : World) :
    Calls Try.prog 14 #[.complex .f64 a b] w fun e w' => ∃ r f, e = .returned (.tuple #[.int .i64 r, .int .i64 f]) ∧ AtR a b r f ∧ Keeps w w' := by
  go_enter Try.func14, Try.ntmps14
  go_wp2_with fail
  have hI : AtI w.heap.size (w.heap.size + 1) (w.heap.size + 1 + 1) a b 0 (((w.alloc (.cells #[.complex .f64 a b] 23)).alloc (.cells #[.int .i64 0] 3)).alloc (.cells #[.int .i64 2] 24)) := by
    refine ⟨?_, ?_, ?_⟩
    · rw [World.cell?_alloc_lt _ _ _ (by simp; omega), World.cell?_alloc_lt _ _ _ (by simp)]
      exact cell_of_row _ _ 0 _ _ _ (heap_alloc_new w _)
    · have := (Blk.made (w.alloc (.cells #[.complex .f64 a b] 23)) 1 3 (fun _ => .int .i64 (if 0 < 0 ∧ mt a b (0 - 1) = true then ((0 - 1 : Nat) : Int) else 0)) #[.int .i64 0] rfl (fun j hj => by cases (show j = 0 by omega); rfl)).alloc (.cells #[.int .i64 2] 24)
      simpa using this
    · have := Blk.made ((w.alloc (.cells #[.complex .f64 a b] 23)).alloc (.cells #[.int .i64 0] 3)) 1 24 (fun _ => .int .i64 (if 0 < 0 ∧ mt a b (0 - 1) = true then 0 else 2)) #[.int .i64 2] rfl (fun j hj => by cases (show j = 0 by omega); rfl)
      simpa using this
  have hK : Keeps w (((w.alloc (.cells #[.complex .f64 a b] 23)).alloc (.cells #[.int .i64 0] 3)).alloc (.cells #[.int .i64 2] 24)) := (((Touch.refl _ w).alloc _).alloc _).alloc _
  refine (walk_any 22 _ (fun j => !mt a b j) (AtI w.heap.size (w.heap.size + 1) (w.heap.size + 1 + 1) a b) (fun k => k = w.heap.size + 1 ∨ k = w.heap.size + 1 + 1) _ run_at hI (fun j wx _ hall hI _ => at_step _ _ _ a b j (by omega) (by omega) (by omega) wx hall hI)).mono ?_
  rintro e w1 ⟨rfl, k1, m, hm, ⟨_, hb1, hb2⟩, hm1, hm2⟩
  have K1 : Keeps w w1 := Touch.trans hK k1 (fun x h hx => by rcases h with h | h <;> omega)
  have c1 := hb1.cell (j := 0) (by omega)
  have c2 := hb2.cell (j := 0) (by omega)
  obtain ⟨r, f, hr, hf, hres⟩ : ∃ r f : Int, (if 0 < m ∧ mt a b (m - 1) = true then ((m - 1 : Nat) : Int) else 0) = r ∧ (if 0 < m ∧ mt a b (m - 1) = true then (0 : Int) else 2) = f ∧ AtR a b r f := by
    have hno : ∀ j, j + 1 < m → mt a b j = false := fun j hj => by simpa using hm1 j hj
    by_cases q : 0 < m ∧ mt a b (m - 1) = true
    · rw [if_pos q, if_pos q]
      exact ⟨_, _, rfl, rfl, .inl ⟨rfl, m - 1, rfl, by omega, q.2, fun j hj => hno j (by omega)⟩⟩
    · rw [if_neg q, if_neg q]
      refine ⟨_, _, rfl, rfl, .inr ⟨rfl, rfl, fun j hj => ?_⟩⟩
      have h4 : m = 4096 := by
        rcases Nat.lt_or_ge m 4096 with h | h
        · obtain ⟨h3, h4⟩ := hm2 h
          exact absurd ⟨h3, by simpa using h4⟩ q
        · omega
      by_cases e : j + 1 < m
      · exact hno j e
      · have : j = m - 1 := by omega
        subst this
        have : ¬ mt a b (m - 1) = true := fun h => q ⟨by omega, h⟩
        simpa using this
  rw [hr] at c1
  rw [hf] at c2
  clear hb1 hb2 hm1 hm2 hr hf k1 hK hI hm
  go_wp2_with fail
  go_quiet (fail)
  go_wp2_with fail
  go_ret2
  exact ⟨r, f, rfl, hres, K1.drewN _⟩
theorem place_no (n : Int) (w : World) (h : n < 0 ∨ 4096 ≤ n) :
    Calls Try.prog 12 #[.int .i64 n] w fun e w' => e = .returned (.tuple #[.complex .f64 0 0, .int .i64 2]) ∧ Keeps w w' := by
  rcases h with h | h
  · go_enter Try.func12, Try.ntmps12
    go_wp2_with fail
    go_ret2
    exact ⟨rfl, (Touch.refl _ w).alloc _⟩
  · have h' : ¬ n < 0 := by omega
    go_enter Try.func12, Try.ntmps12
    go_wp2_with fail
    go_ret2
    exact ⟨rfl, (Touch.refl _ w).alloc _⟩

end Go.Proofs.Ytnpmadnihheahaa
