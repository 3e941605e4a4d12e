/- The law HandleEach: the walk. -/
import Derived.Test.YtnjjecojedlccaaHan5
import Derived.Test.YtnjjecojedlccaaSame
import Derived.StillTailTactics
namespace Go.Proofs.Ytnjjecojedlccaa
open Go.RowKit

theorem Own_form {w : World} {base : Nat} {v : Value} {l : List Int} (h : OwnInts w base v l) : ∃ ad cap, v = .slice ad l.length cap := h.form

set_option maxHeartbeats 1000000 in
theorem clos_any (x add : Int) (bc ba base : Nat) (v : Value) (l : List Int) (w : World) (hv : Blk w bc 30 1 (fun _ => v)) (hown : OwnInts w base v l) (hadd : w.cell? ⟨ba, 0, none⟩ = some (.int .i64 add)) (hl : l.length ≤ 64)
    (hba : base ≤ w.heap.size) (hab : ba < base) (hcb : bc < base) (hne : ba ≠ bc) :
    Calls Try.prog 17 #[.int .i64 x, .pointer (some ⟨bc, 0, none⟩), .pointer (some ⟨ba, 0, none⟩)] w fun e w' => e = .returned (.int .i64 (bits .xor .i64 x add)) ∧ ∃ v', Blk w' bc 30 1 (fun _ => v') ∧ OwnInts w' base v' (l ++ [x]) ∧ Touch (fun k => k = bc ∨ base ≤ k) w w' := by
  obtain ⟨i0, hi, hz0, hz1, hz2⟩ := info_parts Try.info3
  obtain ⟨ad, cap, rfl⟩ := hown.form
  have c0 := hv.cell (j := 0) (by omega)
  have f0 := hv.frozen 0
  have hown' : w.ownsRow base 3 1 (.slice ad l.length cap) l.length (ints l) := hown
  have HB := Lib.hid hown'.lt
  go_enter Try.func17, Try.ntmps17
  go_wp2_with (at_builtin; refine wpList_append_own _ rfl _ _ 30 rfl base 3 i0 (.int .i64 0) 1 8 Try.underlying30 hi hz0 hz1 hz2 rfl (by decide) _ _ _ rfl (hown'.alloc _) ⟨w.heap.size, 0, none⟩ 1 1 [.int .i64 x] rfl rfl ?c1 ?c2 ?c3 ?c4 ?c5 ?_)
  case c1 => exact cell_one_at _ _ _ _ rfl
  case c2 => simp [Value.oneCell']
  case c3 => unfold maxLen; omega
  case c4 => omega
  case c5 => simp; omega
  intro v' w1 hown2 hgr _
  have hO : OwnInts w1 base v' (l ++ [x]) := by unfold OwnInts; rw [ints_snoc, List.length_append]; exact hown2
  obtain ⟨ad', cap', hf'⟩ := hO.form
  have hk1 : Touch (fun k => k = bc ∨ base ≤ k) w w1 := ((Touch.refl _ w).alloc _).grown hgr fun g hg _ => .inr (HB.out g hg).1
  have hnb : bc ≠ w.heap.size := by have := hv.lt; omega
  have hv1 : Blk w1 bc 30 1 (fun _ => .slice ad l.length cap) := hv.of_heap ((hgr.block bc (by have := hv.lt; simp; omega) (fun e => by have := (HB.out bc e.symm).1; omega)).trans (Below.heap_alloc _ _ _ hv.lt))
  have c1 := hv1.cell (j := 0) (by omega)
  have f1 := hv1.frozen 0
  have a1 : w1.cell? ⟨ba, 0, none⟩ = some (.int .i64 add) := by
    rw [← hadd]
    exact World.cell?_of_block (hk1.block ba (by omega) (fun h => by rcases h with h | h <;> omega))
  rw [hf']
  have a2 : (w1.setCell ⟨bc, 0, none⟩ (.slice ad' (l ++ [x]).length cap')).cell? ⟨ba, 0, none⟩ = some (.int .i64 add) := by
    rw [← a1]
    exact World.cell?_of_block (Below.heap_setCell _ _ _ _ hne)
  go_wp2_with fail
  go_ret
  have hO2 : OwnInts w1 base (.slice ad' (l ++ [x]).length cap') (l ++ [x]) := by rw [← hf']; exact hO
  refine ⟨rfl, .slice ad' (l ++ [x]).length cap', (hv1.set 0 _).congr (fun j hj => ?_), ?_, hk1.setCell (fun _ => .inl rfl) _⟩
  · obtain rfl : j = 0 := by omega
    simp [upd]
  · exact ownsRow_setCell_other hO2 (fun e => by have := (World.ownsRow.lt hO2 bc e).1; omega) _

theorem run_clos (ar : Array Value) (w : World) : (callFunc 17 ar).run Try.prog w = .ok (.enter 17 ar) w := by kernel_rfl
theorem each_nilfunc (b : Option Addr) (w : World) :
    Calls Try.prog 16 #[.pointer b, .nilFunc] w fun e w' => e = .returned (.tuple #[]) ∧ w = w' := by
  have hq : ∀ w : World, (binOp .eql 46 .nilFunc .nilFunc).run Try.prog w = .ok (.bool true) w := fun _ => by kernel_rfl
  go_enter Try.func16, Try.ntmps16
  go_wp2_with fail
  exact bodyPost_ret (v := .tuple #[]) (by simp [results, Try.results16, go_sem]) rfl ⟨rfl, rfl⟩

/-- The table when so many values were given handles. -/
def tabV (L : Nat → Int) (k : Nat) : Nat → Pl := fun j => if j < k then ⟨1, true, L j⟩ else ⟨0, false, 0⟩
theorem tabV_zero (L : Nat → Int) : tabV L 0 = T0 := by funext j; simp [tabV, T0]
theorem tabV_free (L : Nat → Int) {k : Nat} (hk : k < 64) : freeT (tabV L k) 64 0 = some k :=
  freeT_some 64 0 k (by omega) (by omega) (fun m _ h => by simp [tabV, h]) (by simp [tabV])
theorem tabV_new (L : Nat → Int) {k : Nat} (hk : k < 64) : newT (tabV L k) (L k) = tabV L (k + 1) := by
  unfold newT
  rw [tabV_free L hk]
  funext j
  unfold setT tabV
  by_cases e : j = k
  · subst e; simp
  · by_cases h : j < k
    · have : j < k + 1 := by omega
      simp [e, h, this]
    · have : ¬ j < k + 1 := by omega
      simp [e, h, this]
theorem tabV_wf (L : Nat → Int) (k : Nat) : WF (tabV L k) 1 := ⟨by omega, fun i _ => by unfold tabV; split <;> simp⟩
theorem tabV_all {T : Nat → Pl} {n : Nat} (hon : ∀ j, (T j).on = decide (j < n)) (hn : ∀ j, j < n → (T j).n = 1) : ∀ k, k ≤ n → allK T k = (List.range k).map fun j : Nat => (j : Int) + 1
  | 0, _ => rfl
  | k + 1, h => by
    rw [allK_on (by rw [hon]; simp; omega), tabV_all hon hn k (by omega), List.range_succ, List.map_append]
    simp [hnd, hn k (by omega)]
theorem tabV_rest {T : Nat → Pl} {n : Nat} (hon : ∀ j, (T j).on = decide (j < n)) (hn : ∀ j, j < n → (T j).n = 1) : ∀ m, allK T (n + m) = (List.range n).map fun j : Nat => (j : Int) + 1
  | 0 => tabV_all hon hn n (Nat.le_refl _)
  | m + 1 => by rw [← Nat.add_assoc, allK_off (by rw [hon]; simp), tabV_rest hon hn m]
theorem tabV_xs {T : Nat → Pl} {n : Nat} {L : Nat → Int} (hon : ∀ j, (T j).on = decide (j < n)) (hx : ∀ j, j < n → (T j).x = L j) : ∀ k, k ≤ n → xsJ T k = (List.range k).map L
  | 0, _ => rfl
  | k + 1, h => by
    rw [xsJ_on (by rw [hon]; simp; omega), tabV_xs hon hx k (by omega), List.range_succ, List.map_append]
    simp [hx k (by omega)]

def ValI (bt bc ba : Nat) (add : Int) (base : Nat) (l : List Int) (w : World) : Prop :=
  bt < base ∧ bc < base ∧ ba < base ∧ base ≤ w.heap.size ∧ w.cell? ⟨ba, 0, none⟩ = some (.int .i64 add) ∧ ∃ v, Blk w bc 30 1 (fun _ => v) ∧ OwnInts w base v l

theorem valI_step (bt bc ba : Nat) (add : Int) (hne : ba ≠ bc) (hnb : bc ≠ bt) (hnb2 : ba ≠ bt) (base : Nat) (l : List Int) (x : Int) (wx : World) (hl : l.length ≤ 64) (h : ValI bt bc ba add base l wx) :
    Calls Try.prog 17 (#[.int .i64 x] ++ #[.pointer (some ⟨bc, 0, none⟩), .pointer (some ⟨ba, 0, none⟩)]) wx fun e w' => e = .returned (.int .i64 (bits .xor .i64 x add)) ∧ ValI bt bc ba add base (l ++ [x]) w' ∧ Touch (fun k => k = bc ∨ base ≤ k) wx w' := by
  obtain ⟨h1, h2, h3, h4, h5, v, hv, hown⟩ := h
  refine (clos_any x add bc ba base v l wx hv hown h5 hl h4 h3 h2 hne).mono ?_
  rintro e w' ⟨he, v', hv', hown', ht⟩
  refine ⟨he, ⟨h1, h2, h3, by have := ht.size; omega, ?_, v', hv', hown'⟩, ht⟩
  rw [← h5]
  exact World.cell?_of_block (ht.block ba (by omega) (fun h => by rcases h with h | h <;> omega))
theorem valI_only (bt bc ba : Nat) (add : Int) (hnb : bc ≠ bt) (hnb2 : ba ≠ bt) (base : Nat) (l : List Int) (wx wy : World) (h : ValI bt bc ba add base l wx) (ho : Only bt wx wy) : ValI bt bc ba add base l wy := by
  obtain ⟨h1, h2, h3, h4, h5, v, hv, hown⟩ := h
  refine ⟨h1, h2, h3, by have := ho.size; omega, ?_, v, hv.touch ho hnb, hown.keep ho (fun k e => by omega) (Nat.le_refl _)⟩
  rw [← h5]
  exact World.cell?_of_block (ho.block ba (by omega) hnb2)

theorem each_call (bt bc ba : Nat) (add : Int) (L : Nat → Int) (len : Nat) (w : World) (hT : Tab w bt (tabV L len)) (hv : Blk w bc 30 1 (fun _ => .slice none 0 0)) (ha : w.cell? ⟨ba, 0, none⟩ = some (.int .i64 add))
    (hne : ba ≠ bc) (hnb : bc ≠ bt) (hnb2 : ba ≠ bt) :
    Calls Try.prog 16 #[.pointer (some ⟨bt, 0, none⟩), .func (.func 17) #[] #[.pointer (some ⟨bc, 0, none⟩), .pointer (some ⟨ba, 0, none⟩)]] w fun e w' => e = .returned (.tuple #[]) ∧
      Tab w' bt (eachJ (tabV L len) (fun x => bits .xor .i64 x add) 64) ∧ (∃ base v, Blk w' bc 30 1 (fun _ => v) ∧ OwnInts w' base v (xsJ (tabV L len) 64) ∧ w.heap.size ≤ base) ∧ w'.cell? ⟨ba, 0, none⟩ = some (.int .i64 add) ∧ Touch (fun k => k = bt ∨ k = bc) w w' := by
  have hb := hT.lt
  have hc := hv.lt
  have hab := World.block_lt_of_cell? w _ ha
  refine (each_any bt (tabV L len) w 1 hT (tabV_wf L len) 17 #[.pointer (some ⟨bc, 0, none⟩), .pointer (some ⟨ba, 0, none⟩)] (fun x => bits .xor .i64 x add) (fun k => k = bc) (ValI bt bc ba add) run_clos
    (fun h => hnb h.symm) (fun k h => by rw [h]; exact hc) (fun w1 k1 => ⟨Nat.lt_of_lt_of_le hb k1.size, Nat.lt_of_lt_of_le hc k1.size, Nat.lt_of_lt_of_le hab k1.size, Nat.le_refl _, ?_, _, Blk.touch hv k1 (fun h => h), World.ownsRow_nil _ _ _ _⟩)
    (fun base l wx wy h ho => valI_only _ _ _ _ hnb hnb2 _ _ _ _ h ho) (fun base l x wx _ _ hl h => valI_step _ _ _ _ hne hnb hnb2 _ _ _ _ hl h)).mono ?_
  · rw [← ha]; exact World.cell?_of_block (k1.block _ hab (fun h => h))
  · rintro e w4 ⟨he, hT4, ⟨base, hbase, hI4⟩, k4⟩
    obtain ⟨_, _, _, _, h5, v, hv5, hown5⟩ := hI4
    exact ⟨he, hT4, ⟨base, v, hv5, hown5, hbase⟩, h5, k4⟩

def valsG (L : Nat → Int) (add : Int) (len : Nat) : Nat → Pl := eachJ (tabV L len) (fun x => bits .xor .i64 x add) 64
theorem valsG_on (L : Nat → Int) (add : Int) (len : Nat) (hlen : len ≤ 64) (j : Nat) : (valsG L add len j).on = decide (j < len) := by
  unfold valsG eachJ tabV
  by_cases h : j < len
  · have : j < 64 := by omega
    simp [h, this]
  · simp [h]
theorem valsG_n (L : Nat → Int) (add : Int) (len : Nat) (j : Nat) (h : j < len) : (valsG L add len j).n = 1 := by
  unfold valsG eachJ tabV
  simp only [h, if_true]
  split <;> rfl
theorem valsG_x (L : Nat → Int) (add : Int) (len : Nat) (hlen : len ≤ 64) (j : Nat) (h : j < len) : (valsG L add len j).x = bits .xor .i64 (L j) add := by
  have : j < 64 := by omega
  unfold valsG eachJ tabV
  simp [h, this]
theorem valsG_all (L : Nat → Int) (add : Int) (len : Nat) (hlen : len ≤ 64) : allT (valsG L add len) = (List.range len).map fun j : Nat => (j : Int) + 1 := by
  have := tabV_rest (valsG_on L add len hlen) (valsG_n L add len) (64 - len)
  rwa [show len + (64 - len) = 64 from by omega] at this
theorem vals_xs (L : Nat → Int) (len : Nat) (hlen : len ≤ 64) : xsJ (tabV L len) 64 = (List.range len).map L := by
  have hon : ∀ j, (tabV L len j).on = decide (j < len) := fun j => by unfold tabV; by_cases h : j < len <;> simp [h]
  have h1 := tabV_xs (L := L) hon (fun j h => by simp [tabV, h]) len (Nat.le_refl _)
  have h2 := xsJ_same (T := tabV L len) (j := len) (64 - len) (fun i h1 _ => by rw [hon]; simp; omega)
  rw [show len + (64 - len) = 64 from by omega] at h2
  rw [h2, h1]
theorem all_vals (bt : Nat) (L : Nat → Int) (add : Int) (len : Nat) (hlen : len ≤ 64) (w : World) (hT : Tab w bt (valsG L add len)) :
    Calls Try.prog 10 #[.pointer (some ⟨bt, 0, none⟩)] w fun e w' => ∃ ad cp, e = .returned (.slice ad len cp) ∧ Rd w' ad len (intF .i64 fun j => (j : Int) + 1) ∧ Keeps w w' := by
  refine (all_any bt _ w 1 hT ((tabV_wf L len).each _ _)).mono ?_
  rintro e w' ⟨ad, cp, he, hown, k⟩
  obtain ⟨hrd, _⟩ := hown.rd
  have hl : (allT (valsG L add len)).length = len := by rw [valsG_all L add len hlen]; simp
  rw [hl] at he hrd
  refine ⟨ad, cp, he, hrd.congr fun j hj => ?_, k⟩
  unfold intF
  rw [valsG_all L add len hlen]
  simp [hj]
theorem get_vals (bt : Nat) (L : Nat → Int) (add : Int) (len : Nat) (hlen : len ≤ 64) (w : World) (hT : Tab w bt (valsG L add len)) (i : Nat) (hi : i < len) :
    Calls Try.prog 15 #[.pointer (some ⟨bt, 0, none⟩), .int .i64 ((i : Int) + 1)] w fun e w' => e = .returned (.tuple #[.int .i64 (bits .xor .i64 (L i) add), .int .i64 0]) ∧ Keeps w w' := by
  have hf : findT (valsG L add len) ((i : Int) + 1) = some i := by
    have e : (((i : Int) + 1 - 1) % 64).toNat = i := by omega
    unfold findT
    rw [e, if_pos ⟨by omega, by rw [valsG_on L add len hlen]; simpa using hi, by unfold hnd; rw [valsG_n L add len i hi]; omega⟩]
  have e1 : getX (valsG L add len) ((i : Int) + 1) = bits .xor .i64 (L i) add := by simp only [getX, hf]; exact valsG_x L add len hlen i hi
  have e2 : errE (valsG L add len) ((i : Int) + 1) = 0 := by simp only [errE, hf]
  rw [← e1, ← e2]
  exact get_any bt _ _ w 1 hT ((tabV_wf L len).each _ _) (by omega) (by omega)

set_option maxRecDepth 100000 in
set_option maxHeartbeats 4000000 in
theorem each_walk (A : Option Addr) (len cap : Nat) (L : Nat → Int) (add : Int) (w : World) (hr : Rd w A len (intF .i64 L)) (hm : len ≤ 9223372036854775807) :
    Calls Try.prog 6 #[.slice A len cap, .int .i64 add] w fun e w' => e = .returned (.bool true) ∧ Keeps w w' := by
  have hz := zero_tab
  by_cases hlen : len ≤ 64
  · have hgt : decide ((64 : Int) < (len : Int)) = false := by simp; omega
    go_enter Try.func6, Try.ntmps6
    go_wp2_with fail
    refine (awake_any _).mono ?_
    rintro e w1 ⟨rfl, k1⟩
    have hT0 := Lib.hid (tab_made w1 T0)
    go_wp2_with fail
    have K1 : Keeps w (w1.alloc (.cells (tabArr T0) 29)) := (((Touch.refl _ w).alloc _).trans k1 (fun _ h => h.elim)).alloc _
    have hT1 := hT0.out
    have hbt : w.heap.size < w1.heap.size := by have := k1.size; simp at this; omega
    have ha1 : (w1.alloc (.cells (tabArr T0) 29)).cell? ⟨w.heap.size, 0, none⟩ = some (.int .i64 add) := by
      rw [World.cell?_alloc_lt _ _ _ (by simpa using hbt)]
      rw [World.cell?_of_block (k1.block w.heap.size (by simp) (fun h => h))]
      exact cell_of_row _ _ 0 _ _ _ (heap_alloc_new w _)
    generalize w1.heap.size = bt at *
    clear hT0 k1
    rw [← tabV_zero L] at hT1
    go_loopw [24] (fun i wr => ∃ k : Nat, k ≤ len ∧ i = .int .i64 k ∧ Tab wr bt (tabV L k) ∧ Only bt (w1.alloc (.cells (tabArr T0) 29)) wr) (fun i _ => len - (intOf i).toNat)
    case atStart => exact ⟨0, Nat.zero_le _, rfl, hT1, Touch.refl _ _⟩
    case round =>
      obtain ⟨k, hk, rfl, hT, hO⟩ := hrel
      by_cases hlt : k < len
      · obtain ⟨bl, off, rfl, c0⟩ := ((hr.keep K1).keepS hO (fun b off e k => by
          obtain ⟨b', off', e', hb', _⟩ := hr (by omega)
          rw [e] at e'
          simp only [Option.some.injEq, Addr.mk.injEq] at e'
          omega)).one hlt
        have c1 : wr.cell? ⟨bl, off + k, none⟩ = some (.int .i64 (L k)) := c0
        clear c0
        have HN := Lib.hid (tabV_new L (k := k) (by omega))
        go_wp2_with fail
        refine (new_any _ _ _ _ 1 hT (tabV_wf L k) (by omega)).mono ?_
        rintro e w3 ⟨rfl, hT3, k3⟩
        rw [HN.out] at hT3
        go_wp2_with fail
        go_roundw
        case rel => exact ⟨k + 1, by omega, by go_num, hT3, Only.trans_ hO k3⟩
        case measure => simp [intOf]; omega
      · obtain rfl : len = k := by omega
        have hlt1 : w.heap.size < (w1.alloc (.cells (tabArr T0) 29)).heap.size := Nat.lt_trans hbt (Blk.lt hT1)
        have hne1 : w.heap.size ≠ bt := by omega
        have ha3 := (World.cell?_of_block (a := ⟨w.heap.size, 0, none⟩) (hO.block w.heap.size hlt1 hne1)).trans ha1
        clear hlt1
        have K3 := K1.new hO (by omega)
        have hsz3 := hT.lt
        clear ha1 hT1 K1 hO
        go_wp2_with fail
        have hTc := hT.alloc (.cells #[.slice none 0 0] 30)
        have hvc : Blk (wr.alloc (.cells #[.slice none 0 0] 30)) wr.heap.size 30 1 (fun _ => .slice none 0 0) := Blk.made wr 1 _ _ _ rfl (fun j hj => by cases (by omega : j = 0); rfl)
        have hac : (wr.alloc (.cells #[.slice none 0 0] 30)).cell? ⟨w.heap.size, 0, none⟩ = some (.int .i64 add) := by
          rw [World.cell?_alloc_lt _ _ _ (by show w.heap.size < wr.heap.size; omega)]; exact ha3
        have Kc := K3.alloc (.cells #[.slice none 0 0] 30)
        have hws : w.heap.size ≤ wr.heap.size := K3.size
        clear ha3 K3
        have hcb : wr.heap.size ≠ bt := by omega
        have hca : w.heap.size ≠ wr.heap.size := by omega
        refine (each_call bt wr.heap.size w.heap.size add L len _ hTc hvc hac hca hcb hne1).mono ?_
        rintro e w4 ⟨rfl, hT4, ⟨base, v, hv4, hown4, hbase⟩, ha4, k4⟩
        go_wp2_with fail
        refine (each_nilfunc _ _).mono ?_
        rintro e w5 ⟨rfl, rfl⟩
        go_wp2_with fail
        have hT4' : Tab w4 bt (valsG L add len) := hT4
        refine (all_vals bt L add len hlen _ hT4').mono ?_
        rintro e w5 ⟨ad, cp, rfl, hrd5, k5⟩
        have hT5 := Blk.touch hT4' k5 (fun h => h)
        have ha5 : w5.cell? ⟨w.heap.size, 0, none⟩ = some (.int .i64 add) := by
          rw [← ha4]; exact World.cell?_of_block (k5.block _ (World.block_lt_of_cell? _ _ ha4) (fun h => h))
        have hv5 := Blk.touch hv4 k5 (fun h => h)
        have hown5 := hown4.keep k5 (fun k h => h.elim) (Nat.le_refl _)
        have K5 : Keeps w w5 := by
          refine Keeps.trans (Touch.trans Kc k4 (fun x h hx => ?_)) k5
          rcases h with h | h
          · omega
          · omega
        have hxs := Lib.hid (vals_xs L len hlen)
        have hbt5 := hT5.lt
        clear hT4 hT4' hv4 hown4 ha4 hT hTc hvc hac Kc k4 k5
        generalize wr.heap.size = bc at *
        go_wp2_with fail
        go_loopw [43] (fun i wx => ∃ k : Nat, k ≤ len ∧ i = .int .i64 k ∧ Keeps w5 wx) (fun i _ => len - (intOf i).toNat)
        case atStart => exact ⟨0, Nat.zero_le _, rfl, Touch.refl _ _⟩
        case round =>
          obtain ⟨k, hk2, rfl, kx⟩ := hrel
          by_cases hlt2 : k < len
          · obtain ⟨b1, o1, rfl, c1⟩ := (hrd5.keep kx).one hlt2
            have c2 : wr.cell? ⟨b1, o1 + k, none⟩ = some (.int .i64 ((k : Int) + 1)) := c1
            clear c1
            go_wp2_with fail
            refine (get_vals bt L add len hlen _ (Blk.touch hT5 kx (fun h => h)) k hlt2).mono ?_
            rintro e w6 ⟨rfl, k6⟩
            have k56 := Keeps.trans kx k6
            obtain ⟨b2, o2, rfl, c3⟩ := (hr.keep (Keeps.trans K5 k56)).one hlt2
            have c4 : w6.cell? ⟨b2, o2 + k, none⟩ = some (.int .i64 (L k)) := c3
            clear c3
            have c5 : w6.cell? ⟨w.heap.size, 0, none⟩ = some (.int .i64 add) := by
              rw [← ha5]; exact World.cell?_of_block (k56.block _ (World.block_lt_of_cell? _ _ ha5) (fun h => h))
            go_wp2_with fail
            go_quiet (fail)
            go_wp2_with fail
            go_roundw
            case rel => exact ⟨k + 1, by omega, by go_num, k56.drewN _⟩
            case measure => simp [intOf]; omega
          · obtain rfl : len = k := by omega
            obtain ⟨ad2, cp2, hf⟩ := (hown5.keep kx (fun k h => h.elim) (Nat.le_refl _)).form
            rw [hxs.out] at hf
            have hv6 := Blk.touch hv5 kx (fun h => h)
            rw [hf] at hv6
            have c1 : wr.cell? ⟨bc, 0, none⟩ = some (.slice ad2 ((List.range len).map L).length cp2) := hv6.cell (by omega)
            have hown6 := hown5.keep kx (fun k h => h.elim) (Nat.le_refl _)
            rw [hxs.out, hf] at hown6
            obtain ⟨hrd6, _⟩ := hown6.rd
            rw [List.length_map, List.length_range] at c1 hrd6
            have hr6 := hr.keep (Keeps.trans K5 kx)
            have hsm : sameB len (fun j => ((List.range len).map L).getD j 0) len L = true := sameB_true (fun i hi => by simp [hi])
            clear hown6 hv6 hf hxs hv5 hown5
            go_wp2_with fail
            refine (same_any _ _ _ _ _ _ _ _ _ hrd6 hr6 hm hm).mono ?_
            rintro e w6 ⟨rfl, k6⟩
            rw [hsm]
            go_wp2_with fail
            go_ret
            exact ⟨rfl, Keeps.trans K5 (Keeps.trans kx k6)⟩
  · have hgt : decide ((64 : Int) < (len : Int)) = true := by simp; omega
    go_enter Try.func6, Try.ntmps6
    go_wp2_with fail
    refine (awake_any _).mono ?_
    rintro e w1 ⟨rfl, k1⟩
    go_wp2_with fail
    refine (awake_any _).mono ?_
    rintro e w2 ⟨rfl, k2⟩
    go_wp2_with fail
    go_ret
    exact ⟨rfl, Keeps.trans ((Touch.refl _ w).alloc _) (Keeps.trans k1 k2)⟩

end Go.Proofs.Ytnjjecojedlccaa
