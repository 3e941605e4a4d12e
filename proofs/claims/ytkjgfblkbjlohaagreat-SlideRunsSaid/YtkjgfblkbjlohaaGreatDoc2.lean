/- Layer 16, the document's: its store with its words as a list of the call's own; blocks of integers; its Walk. -/
import Derived.Test.YtkjgfblkbjlohaaGreatG35
import Derived.Test.YtkjgfblkbjlohaaGreatDoc1
set_option linter.all false

namespace Go.Proofs.YtkjgfblkbjlohaaGreat
open Go.RowKit

set_option maxHeartbeats 1000000 in
theorem lstore2 (ba bw : Nat) (f : Nat → Int) (w : World) (h : Ar w ba bw 500 f) (xb : Nat) (C : Nat → Cl) (Ac : Option Addr) (m cc : Nat) (hx : w.cell? ⟨xb, 0, none⟩ = some (.pointer (some ⟨ba, 0, none⟩))) (hc : w.cell? ⟨xb, 8, none⟩ = some (.slice Ac m cc))
    (hAc : Rd w Ac (m * 4) (clF C)) (hm : m < 64) (hC : ∀ j, j < m → (C j).ok) :
    Calls Tryz.prog 6 #[.pointer (some ⟨xb, 0, none⟩)] w (fun e w' => ∃ pa wb wcp, e = .returned (rstV pa Ac m cc) ∧ RSt w' pa 500 f (some ⟨wb, 0, none⟩) wcp Ac m C ∧ OwnInts w' w.heap.size (.slice (some ⟨wb, 0, none⟩) 500 wcp) ((List.range 500).map f) ∧ (w.heap.size ≤ pa ∧ pa < w'.heap.size) ∧ wb ≠ pa ∧ Keeps w w') := by
  have HW := Lib.hid (show ∀ w', Keeps w w' → Calls Tryz.prog 12 #[.pointer (some ⟨ba, 0, none⟩), .int .i64 0, .int .i64 500] w' fun e w2 => ∃ v, e = .returned (.tuple #[v, .int .i64 0]) ∧ OwnInts w2 w'.heap.size v ((List.range 500).map f) ∧ Keeps w' w2 from fun w' k => by
    have hh := words_yes ba bw 500 f w' (h.keep k) 0 500 (by omega) (by omega) (by omega)
    simpa using hh)
  have hz := zero_rst
  have hxl := block_lt_of_cell hx
  dsimp only at hxl
  clear h
  go_enter Tryz.func6, Tryz.ntmps6
  go_wp2_with fail
  refine named (fun w1 hW1 => ?_)
  have k1 : Keeps w w1 := by rw [hW1]; exact (Touch.refl _ w).alloc _
  have B1 : BL w1 w.heap.size 42 [.pointer none, .slice none 0 0] := by rw [hW1]; exact BL.new1 _ _ _ [.pointer none, .slice none 0 0] _ rfl rfl
  have z0 : w1.heap.size = w.heap.size + 1 := by rw [hW1]; simp
  clear hW1
  refine Calls.mono (HW.out _ k1) ?_
  rintro e w2 ⟨v, rfl, hv, k2⟩
  obtain ⟨wad, wcp, hvv, hcp, hrd, hlo⟩ := hv.cap
  have hl : ((List.range 500).map f).length = 500 := by simp
  rw [hl] at hvv hcp hrd
  subst hvv
  obtain ⟨wb, hwb⟩ : ∃ wb, wad = some ⟨wb, 0, none⟩ := by
    rcases hv.cases_ with ⟨_, h⟩ | ⟨g, cap, h, _⟩
    · exact absurd h (by simp)
    · simp only [Value.slice.injEq] at h
      exact ⟨g, h.1⟩
  subst hwb
  have HOv := Lib.hid hv
  clear hv
  have hrd2 : Rd w2 (some ⟨wb, 0, none⟩) 500 (intF .i64 f) := hrd.congr (fun j hj => by show Value.int _ (((List.range 500).map f).getD j 0) = Value.int _ (f j); rw [map_range_getD f 500 j hj])
  have HRd := Lib.hid hrd2
  have K2 := Keeps.trans k1 k2
  have hx2 := cell_keep hx K2
  have hc2 := cell_keep hc K2
  have B2 := B1.keep k2
  have HAc := Lib.hid hAc
  have HLo := Lib.hid hlo
  have r0 := B2.c 0 _ rfl
  have r1 := B2.c 1 _ rfl
  have f0 := B2.fz 0
  have f1 := B2.fz 1
  have zl := B2.lt
  have hx3 := block_lt_of_cell hx2
  dsimp only at hx3
  have BA := BL.new1 w2 59 _ [.slice (some ⟨wb, 0, none⟩) 500 wcp] w2.heap.size rfl rfl
  have z1 := k1.size
  have z2 := k2.size
  clear hrd hrd2 hl hx hc hAc hlo
  go_wp2_with fail
  have o3 : Only w.heap.size w2 ((w2.setCell ⟨w.heap.size, 0, none⟩ (.pointer (some ⟨w2.heap.size, 0, none⟩))).setCell ⟨w.heap.size, 1, none⟩ (.slice Ac m cc)) := Touch.set (Touch.set (Only.refl _ w2) 0 _) 1 _
  have HE := BL.alloc (BL.set (BL.set B2 0 (.pointer (some ⟨w2.heap.size, 0, none⟩))) 1 (.slice Ac m cc)) (.cells #[.slice (some ⟨wb, 0, none⟩) 500 wcp] 59)
  have s0 := HE.c 0 _ rfl
  have s1 := HE.c 1 _ rfl
  have K3 := Touch.new K2 o3 (Nat.le_refl _)
  have KA := Touch.alloc K3 (.cells #[.slice (some ⟨wb, 0, none⟩) 500 wcp] 59)
  refine bodyPost_ret (v := .agg #[.pointer (some ⟨w2.heap.size, 0, none⟩), .slice Ac m cc]) (by simp [results, Tryz.results6, go_sem, s0, s1]) rfl ⟨w2.heap.size, wb, wcp, rfl, ⟨?_, ?_, HAc.out.keep KA, hm, hC, by omega, hcp⟩, ?_, ⟨by omega, by simp⟩, by have := HLo.out wb 0 rfl; omega, KA⟩
  · exact (BL.new1 _ 59 _ [.slice (some ⟨wb, 0, none⟩) 500 wcp] w2.heap.size (by simp) rfl).c 0 _ rfl
  · exact (HRd.out.keepS o3 (fun b off e h => by have := (HLo.out b off e).1; omega)).keep ((Touch.refl _ _).alloc _)
  · exact ((HOv.out.mono z1).touch o3 (fun kk e h => by have e2 : wb = kk := Option.some.inj e; have := (HLo.out wb 0 rfl).1; omega)).keep ((Touch.refl _ _).alloc _)

/-- A block of integers whose first n are F. -/
structure IB (w : World) (b cap n : Nat) (F : Nat → Int) : Prop where
  blk : ∃ g, Blk w b 3 cap g ∧ ∀ j, j < n → g j = .int .i64 (F j)
  le : n ≤ cap
namespace IB
variable {w w' : World} {b cap n : Nat} {F : Nat → Int}
theorem lt (h : IB w b cap n F) : b < w.heap.size := by
  obtain ⟨g, hb, _⟩ := h.blk
  exact hb.lt
theorem c (h : IB w b cap n F) {j : Nat} (hj : j < n) : w.cell? ⟨b, j, none⟩ = some (.int .i64 (F j)) := by
  obtain ⟨g, hb, hg⟩ := h.blk
  rw [hb.cell (by have := h.le; omega), hg j hj]
theorem fz (h : IB w b cap n F) (j : Nat) : w.frozen? ⟨b, j, none⟩ = false := by
  obtain ⟨g, hb, _⟩ := h.blk
  exact hb.frozen j
theorem touch {S : Nat → Prop} (h : IB w b cap n F) (ht : Touch S w w') (hs : ¬ S b) : IB w' b cap n F := by
  obtain ⟨g, hb, hg⟩ := h.blk
  exact ⟨⟨g, hb.touch ht hs, hg⟩, h.le⟩
theorem keep (h : IB w b cap n F) (ht : Keeps w w') : IB w' b cap n F := h.touch ht (fun h => h)
theorem set (h : IB w b cap n F) {j : Nat} (v : Int) : IB (w.setCell ⟨b, j, none⟩ (.int .i64 v)) b cap n (putF F j v) := by
  obtain ⟨g, hb, hg⟩ := h.blk
  refine ⟨⟨_, hb.set j (.int .i64 v), fun i hi => ?_⟩, h.le⟩
  unfold upd
  by_cases e : i = j
  · subst e; rw [if_pos rfl, putF_self]
  · rw [if_neg e, putF_ne e]; exact hg i hi
theorem rd (h : IB w b cap n F) : Rd w (some ⟨b, 0, none⟩) n (intF .i64 F) := fun _ => ⟨b, 0, rfl, h.lt, fun j hj => by rw [Nat.zero_add]; exact h.c hj⟩
theorem congr {G : Nat → Int} (h : IB w b cap n F) (e : ∀ j, j < n → G j = F j) : IB w b cap n G := by
  obtain ⟨g, hb, hg⟩ := h.blk
  exact ⟨⟨g, hb, fun j hj => by rw [hg j hj, e j hj]⟩, h.le⟩
end IB
theorem OwnInts.ib {w : World} {base b off n cap : Nat} {l : List Int} (h : OwnInts w base (.slice (some ⟨b, off, none⟩) n cap) l) : off = 0 ∧ n = l.length ∧ base ≤ b ∧ b < w.heap.size ∧ IB w b cap n (fun j => l.getD j 0) := by
  have hlt := h.lt
  rcases h.2 with ⟨hv, _⟩ | ⟨g, cap', cur, hv, hb, hgg, h1, h2, h3⟩
  · cases hv
  · simp only [Value.slice.injEq, Option.some.injEq, Addr.mk.injEq, and_true] at hv
    obtain ⟨⟨rfl, rfl⟩, rfl, rfl⟩ := hv
    have hrd := h.rd.1
    have hsz : cur.size = cap := by rw [h3.1, Nat.mul_one]
    refine ⟨rfl, rfl, hb, (hlt b rfl).2, ⟨⟨fun j => cur.getD j (.bool false), ?_, fun j hj => ?_⟩, h1⟩⟩
    · unfold Blk
      rw [hgg]
      have : cur = Array.ofFn (n := cap) fun j => cur.getD j.val (.bool false) := by
        apply Array.ext
        · simp [hsz]
        · intro i a b
          simp [Array.getD, a]
      rw [← this]
    · obtain ⟨b', off', e, _, hc⟩ := hrd (by omega)
      simp only [Option.some.injEq, Addr.mk.injEq, and_true] at e
      obtain ⟨rfl, rfl⟩ := e
      have hcc := hc j hj
      rw [Nat.zero_add] at hcc
      have hc2 : w.cell? ⟨b, j, none⟩ = cur[j]? := by
        unfold World.cell?
        simp [hgg]
      rw [hc2] at hcc
      have hj' : j < cur.size := by omega
      rw [Array.getElem?_eq_getElem hj'] at hcc
      simp only [Array.getD, hj', dite_true]
      exact Option.some.inj hcc
theorem app_own {ops : Array Oper} {rest : List Oper} {o : Oper} {a : Act} {Q : Exit → Act → World → Prop} {w : World} (hgd : o.guard = none) (d : Option Nat) (hd : o.dst = d) (s x : Operand) (ho : o.op = .call { callee := .builtin .append, args := #[s, x], argTypes := #[34, 34] }) (base : Nat) (v : Value) (l : List Int) (hown : OwnInts w base v l) (hs : a.eval s = v)
    (bx : Nat) (vx : Value) (lx : List Int) (hxo : OwnInts w bx vx lx) (hx : a.eval x = vx) (hl : l.length + lx.length ≤ 1000000) (hb : base ≤ w.heap.size)
    (h : ∀ v' w', OwnInts w' base v' (l ++ lx) → w.grownBy w' v.ownBlock → (v'.ownBlock = v.ownBlock ∨ v'.ownBlock = some w.heap.size) → wpList Tryz.prog ops Q rest (a.put d v') w') : wpList Tryz.prog ops Q (o :: rest) a w :=
  wpList_plain hgd fun K hK => wp_app_own d hd s x ho base v l hown hs bx vx lx hxo hx hl hb (fun v' w' h1 h2 h3 => by have := hK _ _ (h v' w' h1 h2 h3); exact this)
def OwnBack (v : Value) (w : World) : Prop := ∀ kk, v.ownBlock = some kk → w.heap.size ≤ kk
theorem Tiles.step {T : Int → Th × Int} {a z : Int} {L : List Int} (h : Tiles T a z L) (hlt : a < z) : (T a).2 = 0 ∧ 1 ≤ (T a).1.words ∧ ∃ L', Tiles T (a + (T a).1.words) z L' ∧ L = if (T a).1.is then a :: L' else L' := by
  cases h with
  | nil => omega
  | cons h1 h2 h3 => exact ⟨h1, h2, _, h3, rfl⟩
set_option maxRecDepth 100000 in
set_option maxHeartbeats 1000000 in
theorem rwalk16 (pa n : Nat) (W : Nat → Int) (wad : Option Addr) (wcp : Nat) (A : Option Addr) (m cap : Nat) (C : Nat → Cl) (w : World) (h : RSt w pa n W wad wcp A m C) (a z : Int) (L : List Int) (hT : Tiles (atT n W m C) a z L) (ha : 0 ≤ a) (hz : z ≤ 4096) (hL : L.length ≤ 5000) :
    Calls Tryz.prog 39 #[rstV pa A m cap, .int .i64 a, .int .i64 z] w fun e w' => ∃ v, e = .returned (.tuple #[v, .int .i64 0]) ∧ OwnInts w' w.heap.size v L ∧ Keeps w w' := by
  have HR := Lib.hid h
  have HSz := Lib.hid (show ∀ w', Keeps w w' → ∀ x, (atT n W m C x).2 = 0 → Calls Tryz.prog 41 #[rstV pa A m cap, .int .i64 x] w' fun e w2 => e = .returned (.tuple #[.int .i64 (atT n W m C x).1.words, .bool (atT n W m C x).1.is, .int .i64 0]) ∧ Keeps w' w2 from fun w' k x hx => rsize_ok pa n W wad wcp A m cap C w' (h.keep k) x hx)
  have HT := Lib.hid hT
  clear h hT
  unfold rstV at *
  generalize hTT : atT n W m C = T at *
  clear hTT
  go_enter Tryz.func39, Tryz.ntmps39
  go_upto_region 1 with fail
  refine named_code (fun w1 hW1 => ?_)
  have K1 : Keeps w w1 := by rw [hW1]; exact (Touch.refl _ w).alloc _
  have B1 : BL w1 w.heap.size 42 [.pointer (some ⟨pa, 0, none⟩), .slice A m cap] := by rw [hW1]; exact BL.new1 _ _ _ [.pointer (some ⟨pa, 0, none⟩), .slice A m cap] _ rfl rfl
  have z1 : w1.heap.size = w.heap.size + 1 := by rw [hW1]; simp
  clear hW1
  go_wp2_with fail
  go_loopw [8, 9] (fun v at_ wr => ∃ (x : Int) (X Y : List Int), at_ = .int .i64 x ∧ OwnInts wr w.heap.size v X ∧ Tiles T x z Y ∧ L = X ++ Y ∧ 0 ≤ x ∧ OwnBack v w1 ∧ Keeps w1 wr) (fun _ at_ _ => (z - intOf at_).toNat)
  case atStart => exact ⟨a, [], L, rfl, OwnInts.nil_ _ _, HT.out, rfl, ha, (fun kk e => by cases e), Touch.refl _ _⟩
  case round =>
    obtain ⟨w2, rfl⟩ : ∃ w2 : World, w2 = wr := ⟨_, rfl⟩
    obtain ⟨x, X, Y, rfl, hown, hTl, hXY, hx0, hbk, k2⟩ := hrel
    have HO := Lib.hid hown
    have HXY := Lib.hid hXY
    have HTl := Lib.hid hTl
    have HBk := Lib.hid hbk
    have hle := hTl.le
    have B2 := B1.keep k2
    have p0 := B2.c 0 _ rfl
    have p1 := B2.c 1 _ rfl
    have z2 := k2.size
    have hXl : X.length ≤ 5000 := by have := congrArg List.length hXY; rw [List.length_append] at this; omega
    clear hown hXY hbk
    by_cases hlt : x < z
    · obtain ⟨h1, h2, Y', h3, hY⟩ := hTl.step hlt
      have hle2 := h3.le
      have hSx := Lib.hid (fun w' k => HSz.out w' k x h1)
      have HY := Lib.hid hY
      have H3 := Lib.hid h3
      clear hTl h1 h3 hY
      obtain ⟨wd, hwd⟩ : ∃ wd, (T x).1.words = wd := ⟨_, rfl⟩
      obtain ⟨bi, hbi⟩ : ∃ bi, (T x).1.is = bi := ⟨_, rfl⟩
      rw [hwd] at h2 hle2 hSx H3
      rw [hbi] at hSx HY
      have g1 : IntKind.i64.wrap (z - x) = z - x := IntWalk.i64_in _ ⟨by omega, by omega⟩
      have g2 : IntKind.i64.wrap (x + wd) = x + wd := IntWalk.i64_in _ ⟨by omega, by omega⟩
      have hgt : decide (z - x < wd) = false := decide_eq_false (by omega)
      clear hwd hbi
      go_wp2_with fail
      refine Calls.mono (hSx.out _ (Keeps.trans K1 k2)) ?_
      clear hSx
      rintro e w3 ⟨rfl, k3⟩
      have z3 := k3.size
      cases bi with
      | false =>
        go_wp2_with fail
        go_roundw
        case rel => exact ⟨x + wd, X, Y', rfl, HO.out.keep k3, H3.out, by have := HXY.out; rw [HY.out] at this; exact this, by omega, HBk.out, Keeps.trans k2 k3⟩
        case measure => simp [intOf]; omega
      | true =>
        have HO3 := Lib.hid (HO.out.keep k3)
        go_wp2_with (at_builtin; refine app_int ?_ (.tmp 33) (.tmp 35) ?_ w.heap.size u8 X (HO3.out.alloc _) ?_ w3.heap.size x ?_ (cell_new _ _ _ _ rfl) (by omega) (by simp; omega) ?_; rfl; rfl; rfl; rfl; intro v' w4 hown' hgr hbl; have K4 : Keeps w1 w4 := Keeps.grown (Touch.alloc (Keeps.trans k2 k3) _) hgr (fun kk e => HBk.out kk e); have HB4 := Lib.hid (show OwnBack v' w1 from fun kk e => by { rcases hbl with h | h; { exact HBk.out kk (h ▸ e) }; { rw [h] at e; simp at e; omega } }); have HO4 := Lib.hid hown'; clear hgr hbl hown')
        go_roundw
        case rel => exact ⟨x + wd, X ++ [x], Y', rfl, HO4.out, H3.out, by have := HXY.out; rw [HY.out] at this; rw [List.append_assoc]; exact this, by omega, HB4.out, K4⟩
        case measure => simp [intOf]; omega
    · have hxz : x = z := by omega
      have hYn : Y = [] := by
        have hTl2 := HTl.out
        cases hTl2 with
        | nil => rfl
        | cons a1 a2 a3 => have := a3.le; omega
      have HXL := Lib.hid (show L = X from by rw [HXY.out, hYn, List.append_nil])
      clear hYn hTl
      go_wp2_with fail
      go_ret2
      exact ⟨_, rfl, by rw [HXL.out]; exact HO.out, Keeps.trans K1 k2⟩

end Go.Proofs.YtkjgfblkbjlohaaGreat
