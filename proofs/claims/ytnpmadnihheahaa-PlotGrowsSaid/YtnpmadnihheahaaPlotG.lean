/- Rows of bytes that are written; Draw's function that lays a cell. -/
import Derived.Test.YtnpmadnihheahaaPlotE
import Derived.StillTailTactics
namespace Go.Proofs.Ytnpmadnihheahaa
open Go.RowKit

/-- Block b begins with W bytes, that may be written. -/
def RowB (w : World) (b W : Nat) (f : Nat → Int) : Prop :=
  ∃ (cs : Array Value) (t : TypeId) (lo hi : Nat), w.heap[b]? = some (.cells cs t (lo, hi)) ∧ W ≤ cs.size ∧ (∀ j, j < W → ¬ (lo ≤ j ∧ j < hi)) ∧ ∀ j, j < W → cs[j]? = some (.int .u8 (f j))
namespace RowB
variable {w : World} {b W : Nat} {f : Nat → Int}
theorem lt (h : RowB w b W f) : b < w.heap.size := by
  obtain ⟨cs, t, lo, hi, hb, _⟩ := h
  exact (Array.getElem?_eq_some_iff.1 hb).1
theorem cell (h : RowB w b W f) {j : Nat} (hj : j < W) : w.cell? ⟨b, j, none⟩ = some (.int .u8 (f j)) := by
  obtain ⟨cs, t, lo, hi, hb, h1, h2, h3⟩ := h
  simp [World.cell?, hb, h3 j hj]
theorem frozen (h : RowB w b W f) {j : Nat} (hj : j < W) : w.frozen? ⟨b, j, none⟩ = false := by
  obtain ⟨cs, t, lo, hi, hb, h1, h2, h3⟩ := h
  have := h2 j hj
  simp [World.frozen?, hb]
  omega
theorem touch {S : Nat → Prop} {w' : World} (h : RowB w b W f) (ht : Touch S w w') (hs : ¬ S b) : RowB w' b W f := by
  have hlt := h.lt
  obtain ⟨cs, t, lo, hi, hb, r⟩ := h
  exact ⟨cs, t, lo, hi, (ht.block b hlt hs).trans hb, r⟩
theorem congr {g : Nat → Int} (h : RowB w b W f) (hg : ∀ j, j < W → f j = g j) : RowB w b W g := by
  obtain ⟨cs, t, lo, hi, hb, h1, h2, h3⟩ := h
  exact ⟨cs, t, lo, hi, hb, h1, h2, fun j hj => by rw [← hg j hj]; exact h3 j hj⟩
theorem set (h : RowB w b W f) (j : Nat) (v : Int) : RowB (w.setCell ⟨b, j, none⟩ (.int .u8 v)) b W (fun i => if i = j then v else f i) := by
  have hlt := h.lt
  obtain ⟨cs, t, lo, hi, hb, h1, h2, h3⟩ := h
  refine ⟨cs.setIfInBounds j (.int .u8 v), t, lo, hi, ?_, by simpa using h1, h2, fun i hi => ?_⟩
  · show (w.heap.modify b _)[b]? = _
    have h' : w.heap[b] = .cells cs t (lo, hi) := by simpa [Array.getElem?_eq_getElem hlt] using hb
    rw [Array.getElem?_eq_getElem (by simpa using hlt), Array.getElem_modify_self, h']
    rfl
  · by_cases e : i = j
    · subst e
      dsimp only
      rw [if_pos rfl, Array.getElem?_setIfInBounds_self, if_pos (by omega)]
    · dsimp only
      rw [if_neg e, Array.getElem?_setIfInBounds_ne (fun h => e h.symm)]
      exact h3 i hi
end RowB

/-- Rows of bytes, of which the first i are laid. -/
structure Grid (w : World) (bl H W : Nat) (br cp : Nat → Nat) (f : Nat → Nat → Int) (i : Nat) : Prop where
  head : Blk w bl 49 H (fun r => if r < i then .slice (some ⟨br r, 0, none⟩) W (cp r) else .slice none 0 0)
  each : ∀ r, r < i → RowB w (br r) W (f r)
  inj : ∀ r r', r < i → r' < i → br r = br r' → r = r'
  off : ∀ r, r < i → br r ≠ bl
def InRows (br : Nat → Nat) (H : Nat) (k : Nat) : Prop := ∃ r, r < H ∧ k = br r
namespace Grid
variable {w : World} {bl H W : Nat} {br cp : Nat → Nat} {f : Nat → Nat → Int} {i : Nat}
theorem touch {S : Nat → Prop} {w' : World} (h : Grid w bl H W br cp f i) (ht : Touch S w w') (hs : ¬ S bl) (hr : ∀ r, r < i → ¬ S (br r)) : Grid w' bl H W br cp f i :=
  ⟨h.head.touch ht hs, fun r hi => (h.each r hi).touch ht (hr r hi), h.inj, h.off⟩
theorem put (h : Grid w bl H W br cp f i) {r c : Nat} (hr : r < i) (v : Int) :
    Grid (w.setCell ⟨br r, c, none⟩ (.int .u8 v)) bl H W br cp (fun r' c' => if r' = r ∧ c' = c then v else f r' c') i := by
  refine ⟨Blk.other (p := ⟨br r, c, none⟩) h.head (fun e => h.off r hr e.symm) _, fun r' h' => ?_, h.inj, h.off⟩
  by_cases e : r' = r
  · subst e
    exact ((h.each r' h').set c v).congr (fun j _ => by simp)
  · exact ((h.each r' h').touch ((Only.refl (br r) w).set c (.int .u8 v)) (fun k => e (h.inj r' r h' hr k))).congr (fun j _ => by simp [e])
end Grid

theorem run_dr (ar : Array Value) (w : World) : (callFunc 25 ar).run Try.prog w = .ok (.enter 25 ar) w := by kernel_rfl
/-- A string's bytes. -/
def byt (s : ByteArray) (k : Nat) : Int := ((s.data.toList.getD k 0).toNat : Int)
theorem byt_eq {s : ByteArray} {j : Nat} (h : j < s.size) : ((s[j]'h).toNat : Int) = byt s j := by
  have h' : j < s.data.toList.length := by simpa using h
  unfold byt
  rw [List.getD_eq_getElem?_getD, List.getElem?_eq_getElem h']
  rfl
structure DrI (bc blc bb : Nat) (s : ByteArray) (bl : Nat) (br cp : Nat → Nat) (b : Bx) (j : Nat) (w : World) : Prop where
  str : w.cell? ⟨bc, 0, none⟩ = some (.string s)
  lin : w.cell? ⟨blc, 0, none⟩ = some (.slice (some ⟨bl, 0, none⟩) (hei b) (hei b))
  box : Blk w bb 54 4 (bxF b)
  rows : Grid w bl (hei b) (wid b) br cp (fun r c => gN (byt s) (b.l + (c : Nat)) (b.u - (r : Nat)) (min j s.size)) (hei b)

set_option maxHeartbeats 1000000 in
theorem dr_step (bc blc bb : Nat) (s : ByteArray) (bl : Nat) (br cp : Nat → Nat) (j : Nat) (hs : s.size ≤ 4096) (h1 : ¬ InRows br (hei (bxN s.size)) bc) (h2 : ¬ InRows br (hei (bxN s.size)) blc) (h3 : ¬ InRows br (hei (bxN s.size)) bb)
    (w : World) (h : DrI bc blc bb s bl br cp (bxN s.size) j w) (hj : j < 4096) :
    Calls Try.prog 25 (#[.int .i64 (j : Int), .complex .f64 (fB (St j).x) (fB (St j).y)] ++ #[.pointer (some ⟨bc, 0, none⟩), .pointer (some ⟨blc, 0, none⟩), .pointer (some ⟨bb, 0, none⟩)]) w fun e w' =>
      e = .returned (.bool (decide (j < s.size))) ∧ DrI bc blc bb s bl br cp (bxN s.size) (j + 1) w' ∧ Touch (InRows br (hei (bxN s.size))) w w' := by
  obtain ⟨c0, c1, hb, hr⟩ := h
  have q := sp j (by omega)
  obtain ⟨q1, q2, q3, q4, _⟩ := q
  by_cases hlt : j < s.size
  · have hmin : min j s.size = j := by omega
    have hmin' : min (j + 1) s.size = j + 1 := by omega
    obtain ⟨x1, x2, x3, x4⟩ := bx_in (j := j) (k := s.size) hlt
    obtain ⟨o1, o2, o3, o4, o5, o6, o7, o8⟩ := bx_ok s.size (by omega)
    rw [hmin] at hr
    rw [decide_eq_true hlt]
    have v1 := conv_fi (St j).x (by omega) (by omega)
    have v2 := conv_fi (St j).y (by omega) (by omega)
    obtain ⟨r, hr0, hr1⟩ : ∃ r : Nat, r < hei (bxN s.size) ∧ (bxN s.size).u - (St j).y = (r : Int) := ⟨((bxN s.size).u - (St j).y).toNat, by unfold hei; omega, by omega⟩
    obtain ⟨c, hc0, hc1⟩ : ∃ c : Nat, c < wid (bxN s.size) ∧ (St j).x - (bxN s.size).l = (c : Int) := ⟨((St j).x - (bxN s.size).l).toNat, by unfold wid; omega, by omega⟩
    have d0 : w.cell? ⟨bb, 0, none⟩ = some (.int .i64 (bxN s.size).l) := hb.cell (j := 0) (by omega)
    have d3 : w.cell? ⟨bb, 3, none⟩ = some (.int .i64 (bxN s.size).u) := hb.cell (j := 3) (by omega)
    have d4 : w.cell? ⟨bl, r, none⟩ = some (.slice (some ⟨br r, 0, none⟩) (wid (bxN s.size)) (cp r)) := by
      have := hr.head.cell hr0
      rwa [if_pos hr0] at this
    have d5 := (hr.each r hr0).cell hc0
    have d6 := (hr.each r hr0).frozen hc0
    have w1 : IntKind.i64.wrap (r : Int) = (r : Int) := IntWalk.i64_in _ ⟨by omega, by omega⟩
    have w2 : IntKind.i64.wrap (c : Int) = (c : Int) := IntWalk.i64_in _ ⟨by omega, by omega⟩
    have i1 : (0 : Int) ≤ (r : Int) := by omega
    have i2 : (r : Int) < (hei (bxN s.size) : Int) := by omega
    have i3 : (0 : Int) ≤ (c : Int) := by omega
    have i4 : (c : Int) < (wid (bxN s.size) : Int) := by omega
    have i5 : (0 : Int) ≤ (j : Int) := by omega
    have i6 : (j : Int) < (s.size : Int) := by omega
    have HS := Lib.hid (fun w' (ht : Touch (fun k => k = br r) w w') => (⟨(World.cell?_of_block (ht.block bc (World.block_lt_of_cell? _ _ c0) (fun e => h1 ⟨r, hr0, e⟩))).trans c0, (World.cell?_of_block (ht.block blc (World.block_lt_of_cell? _ _ c1) (fun e => h2 ⟨r, hr0, e⟩))).trans c1, hb.touch ht (fun e => h3 ⟨r, hr0, e⟩)⟩ : w'.cell? ⟨bc, 0, none⟩ = some (.string s) ∧ w'.cell? ⟨blc, 0, none⟩ = some (.slice (some ⟨bl, 0, none⟩) (hei (bxN s.size)) (hei (bxN s.size))) ∧ Blk w' bb 54 4 (bxF (bxN s.size))))
    have hp := hr.put (c := c) hr0 (byt s j)
    have HP := Lib.hid hp
    have HG := Lib.hid (show ∀ (X Y : Int), gN (byt s) X Y (j + 1) = if (St j).x = X ∧ (St j).y = Y then byt s j else gN (byt s) X Y j from fun _ _ => rfl)
    have HM := Lib.hid hmin'
    clear hb hr hp hmin hmin' h1 h2 h3
    generalize fB (St j).x = xx at *
    generalize fB (St j).y = yy at *
    go_enter Try.func25, Try.ntmps25
    go_wp2_with fail
    go_still_tail 19, (by kernel_rfl)
    change wpList _ _ _ _ _ w.drew
    go_wp2_with fail
    go_ret
    rw [byt_eq hlt]
    obtain ⟨z1, z2, z3⟩ := HS.out _ ((Only.refl (br r) w).set c (.int .u8 (byt s j)))
    refine ⟨rfl, ⟨z1, z2, z3, ?_⟩, ((Touch.refl _ w).setCell (fun _ => ⟨r, hr0, rfl⟩) _).drew⟩
    have hp' := HP.out
    refine ⟨hp'.head, fun r' h' => (hp'.each r' h').congr fun c' h'' => ?_, hp'.inj, hp'.off⟩
    rw [HM.out, HG.out]
    have e1 : (St j).x = (bxN s.size).l + (c' : Nat) ∧ (St j).y = (bxN s.size).u - (r' : Nat) ↔ r' = r ∧ c' = c := by omega
    simp only [e1]
  · have hmin : min j s.size = s.size := by omega
    have hmin' : min (j + 1) s.size = s.size := by omega
    rw [hmin] at hr
    rw [decide_eq_false hlt]
    have HD : Hid (DrI bc blc bb s bl br cp (bxN s.size) (j + 1) w) := ⟨c0, c1, hb, by rw [hmin']; exact hr⟩
    have hge : ¬ ((j : Int) < (s.size : Int)) := by omega
    clear hb hr hmin hmin' h1 h2 h3 q1 q2 q3 q4
    generalize fB (St j).x = xx at *
    generalize fB (St j).y = yy at *
    go_enter Try.func25, Try.ntmps25
    go_wp2_with fail
    go_ret
    exact ⟨rfl, HD.out, Touch.refl _ w⟩

end Go.Proofs.Ytnpmadnihheahaa
