/- Layer 15, the document's: place, At. -/
import Derived.Test.YtkjgfblkbjlohaaGreatG25
set_option linter.all false

namespace Go.Proofs.YtkjgfblkbjlohaaGreat
open Go.RowKit

theorem rplace_any (ad : Option Addr) (l : List Int) (n cap : Nat) (x : Int) (w : World) (hn : n = l.length) (hr : Rd w ad n (intF .i64 fun j => l.getD j 0)) (hl : n ≤ 1000000) :
    Calls Tryz.prog 64 #[.slice ad n cap, .int .i64 x] w fun e w' => (∃ i : Int, e = .returned (.int .i64 i) ∧ (i < 0 ↔ x ∉ l)) ∧ w = w' := by
  have HM := Lib.hid (show ∀ k, k < n → l.getD k 0 ∈ l from fun k hk => by rw [List.getD_eq_getElem?_getD, List.getElem?_eq_getElem (by omega)]; exact List.getElem_mem _)
  have HA := Lib.hid (show x ∈ l → ∃ k, k < n ∧ l.getD k 0 = x from fun hx => by
    obtain ⟨k, hk, e⟩ := List.getElem_of_mem hx
    exact ⟨k, by omega, by rw [List.getD_eq_getElem?_getD, List.getElem?_eq_getElem hk]; exact e⟩)
  go_enter Tryz.func64, Tryz.ntmps64
  go_wp2_with fail
  go_loopw [8] (fun i wr => ∃ k : Nat, k ≤ n ∧ i = .int .i64 k ∧ (∀ j, j < k → l.getD j 0 ≠ x) ∧ w = wr) (fun i _ => n - (intOf i).toNat)
  case atStart => exact ⟨0, Nat.zero_le _, rfl, fun j h => by omega, rfl⟩
  case round =>
    obtain ⟨k, hk, rfl, hall, rfl⟩ := hrel
    have HL := Lib.hid hall
    clear hall
    by_cases hlt : k < n
    · obtain ⟨b, off, rfl, c1⟩ := hr.one hlt
      have c2 : w.cell? ⟨b, off + k, none⟩ = some (.int .i64 (l.getD k 0)) := c1
      have HK := Lib.hid (HM.out k hlt)
      clear c1
      generalize hy : l.getD k 0 = y at *
      have HY := Lib.hid hy
      clear hy
      by_cases hz : y = x
      · subst hz
        go_wp2_with fail
        go_ret
        exact ⟨⟨k, rfl, ⟨fun h => by omega, fun h => absurd HK.out h⟩⟩, rfl⟩
      · have hyb : (y == x) = false := by simpa using hz
        have HZ := Lib.hid hz
        clear hz
        go_wp2_with fail
        go_roundw
        case rel => exact ⟨k + 1, by omega, by go_num, fun j h => by
          rcases (by omega : j < k ∨ j = k) with h' | rfl
          · exact HL.out j h'
          · rw [HY.out]; exact HZ.out, by trivial⟩
        case measure => simp [intOf]; omega
    · obtain rfl : k = n := by omega
      go_wp2_with fail
      go_ret
      exact ⟨⟨-1, rfl, ⟨fun _ hx => by obtain ⟨j, hj, e⟩ := HA.out hx; exact HL.out j hj e, fun _ => by omega⟩⟩, rfl⟩
/-- append of a list that reads, at the operation. -/
theorem app_ints_run (w : World) (base : Nat) (v : Value) (l : List Int) (hown : OwnInts w base v l) (ad : Addr) (m c : Nat) (F : Nat → Int) (hr : Rd w (some ad) m (intF .i64 F)) (hl : l.length + m ≤ 1000000) (hb : base ≤ w.heap.size) (ty : TypeId) :
    ∃ v' w', (Builtin.append_ #[34, 34] ty #[v, .slice (some ad) m c]).run Tryz.prog w = .ok v' w' ∧ OwnInts w' base v' (l ++ (List.range m).map F) ∧ w.grownBy w' v.ownBlock ∧ (v'.ownBlock = v.ownBlock ∨ v'.ownBlock = some w.heap.size) := by
  obtain ⟨i0, hi, hz0, hz1, hz2⟩ := info_parts info_int
  obtain ⟨v', w', h1, h2, h3, _, h5⟩ := run_append_own_at (P := Tryz.prog) w base 34 ty 3 i0 (.int .i64 0) 1 8 Tryz.underlying34 hi hz0 hz1 hz2 rfl (by decide) v l.length (ints l) hown ad m c ((List.range m).map (intF .i64 F)) (by simp) (fun j u hu => by
    have hj : j < m := by
      rcases Nat.lt_or_ge j m with h' | h'
      · exact h'
      · rw [List.getElem?_eq_none (by simpa using h')] at hu; cases hu
    simp [hj] at hu
    subst hu
    obtain ⟨b, off, e, _, hc⟩ := hr (by omega)
    cases e
    rw [add_plain]
    exact hc j hj) (fun u hu => by
      simp at hu
      obtain ⟨j, hj, rfl⟩ := hu
      rfl) (by unfold maxLen; omega) (by omega) hb
  refine ⟨v', w', h1, ?_, h3, h5⟩
  unfold OwnInts
  rw [List.length_append, List.length_map, List.length_range, show ints (l ++ (List.range m).map F) = ints l ++ (List.range m).map (intF .i64 F) by simp [ints, intF, Function.comp_def]]
  exact h2
theorem own_empty (w : World) (base N : Nat) (hN : w.heap.size = N) (h : base ≤ N) : OwnInts (w.alloc (.cells #[] 3)) base (.slice (some ⟨N, 0, none⟩) 0 0) [] :=
  OwnInts.mono (own_new w 3 1 N hN : OwnInts (w.alloc (.cells #[] 3)) N (.slice (some ⟨N, 0, none⟩) 0 0) []) h
theorem slice_ad (wcp p2 bw off : Nat) : (if wcp = p2 then some (⟨bw, off, none⟩ : Addr) else some ⟨bw, off + p2, none⟩) = some ⟨bw, off + (if wcp = p2 then 0 else p2), none⟩ := by
  split <;> simp
theorem rd_sub {w : World} {bw off n wcp : Nat} {W : Nat → Int} (h : Rd w (some ⟨bw, off, none⟩) n (intF .i64 W)) (p2 k : Nat) (hk : p2 + k ≤ n) (hc : n ≤ wcp) : Rd w (some ⟨bw, off + (if wcp = p2 then 0 else p2), none⟩) k (intF .i64 fun j => W (p2 + j)) := by
  intro h0
  rw [if_neg (by omega)]
  obtain ⟨b, o, e, hb, hc⟩ := h (by omega)
  cases e
  exact ⟨bw, off + p2, rfl, hb, fun j hj => by rw [Nat.add_assoc]; exact hc (p2 + j) (by omega)⟩
section
variable {o : Oper} {a : Act} {w : World} {K : Act → World → Prop} {Q : Exit → Act → World → Prop}
theorem wp_app_ints (s x : Operand) (ho : o.op = .call { callee := .builtin .append, args := #[s, x], argTypes := #[34, 34] }) (base : Nat) (v : Value) (l : List Int) (hown : OwnInts w base v l) (hs : a.eval s = v)
    (ad : Addr) (m c : Nat) (hx : a.eval x = .slice (some ad) m c) (F : Nat → Int) (hr : Rd w (some ad) m (intF .i64 F)) (hl : l.length + m ≤ 1000000) (hb : base ≤ w.heap.size)
    (h : ∀ v' w', OwnInts w' base v' (l ++ (List.range m).map F) → w.grownBy w' v.ownBlock → (v'.ownBlock = v.ownBlock ∨ v'.ownBlock = some w.heap.size) → K (a.put o.dst v') w') : Oper.wp Tryz.prog o a w K Q := by
  obtain ⟨v', w', hr', h2, h3, h5⟩ := app_ints_run w base v l hown ad m c F hr hl hb o.type
  unfold Oper.wp execOp
  simp only [ho, resolve, invoke, builtin, Sem.run_bind, Sem.run_pure, Result.andThen_ok, List.map_toArray, List.map_cons, List.map_nil, hs, hx, hr']
  exact h _ _ h2 h3 h5
theorem wp_store_bl (ty : TypeId) (x y : Operand) (ho : o.op = .store ty x y) {b : Nat} {t : TypeId} {l : List Value} (hB : BL w b t l)
    (hx : a.eval x = .pointer (some ⟨b, 0, none⟩)) (vs : List Value) (hy : a.eval y = .agg vs.toArray) (hi : (Tryz.prog.info? ty).map (·.size) = some vs.length)
    (hl : l.length = vs.length) (h1 : vs.all (·.oneCell') = true)
    (h : ∀ X, BL X b t vs → Only b w X → K (a.put o.dst undef) X) : Oper.wp Tryz.prog o a w K Q := by
  unfold Oper.wp execOp
  simp only [ho, hx, hy, Instr.storeAt, Instr.sureAddr, Sem.run_bind, Sem.run_pure, Result.andThen_ok,
    run_storeVar_row w b t ty l.toArray vs.toArray hB.heap (by simpa using hi) (by simpa using hl) (by simpa using h1)]
  exact h _ (hB.setRow vs) (Only.setRow w b _)
end
def refsOf (W : Nat → Int) (a : Int) (r : Nat) : List Int := (List.range r).map fun i : Nat => W (a + 2 + (i : Int)).toNat
theorem refs_eq (W : Nat → Int) (p r p2 k : Nat) (h2 : p2 = p + 2) (hk : k = r) : (List.range k).map (fun j => W (p2 + j)) = refsOf W p (r : Int).toNat := by
  subst hk
  subst h2
  unfold refsOf
  rw [Int.toNat_natCast]
  apply List.map_congr_left
  intro j _
  congr 1
theorem sz_robj : (Tryz.prog.info? 135).map (·.size) = some 9 := by kernel_rfl
def AtOut (W : Nat → Int) (a : Int) (t : Th) (w : World) (e : Ending) (w' : World) : Prop :=
  ∃ vr vd, e = .returned (.agg #[.int .i64 t.hd.cls, .int .i64 t.hd.age, .int .i64 t.hd.fwd, .bool t.hd.mark, .bool t.hd.fin, .bool t.hd.done, .int .i64 (W (a + 1).toNat), vr, vd]) ∧ OwnInts w' w.heap.size vr (refsOf W a t.refs.toNat) ∧ OwnInts w' w.heap.size vd (refsOf W (a + t.refs) t.data.toNat) ∧ Keeps w w'
set_option maxRecDepth 100000 in
set_option maxHeartbeats 4000000 in
theorem rat_any (pa n : Nat) (W : Nat → Int) (wad : Option Addr) (wcp : Nat) (A : Option Addr) (m cap : Nat) (C : Nat → Cl) (w : World) (h : RSt w pa n W wad wcp A m C) (a : Int) (hq : (objP (atT n W m C a)).2 = 0) :
    Calls Tryz.prog 65 #[rstV pa A m cap, .int .i64 a] w (AtOut W a (objP (atT n W m C a)).1 w) := by
  have HSh := Lib.hid (show ∀ w', Keeps w w' → Calls Tryz.prog 44 #[rstV pa A m cap, .int .i64 a] w' fun e w2 => e = .returned (.tuple #[.int .i64 (objP (atT n W m C a)).1.refs, .int .i64 (objP (atT n W m C a)).1.data, .int .i64 0]) ∧ Keeps w' w2 from fun w' k => rshape_ok pa n W wad wcp A m cap C w' (h.keep k) a hq)
  have HHd := Lib.hid (show ∀ w', Keeps w w' → Calls Tryz.prog 45 #[rstV pa A m cap, .int .i64 a] w' fun e w2 => e = .returned (.tuple #[hdV (objP (atT n W m C a)).1.hd, .int .i64 0]) ∧ Keeps w' w2 from fun w' k => rhead_ok pa n W wad wcp A m cap C w' (h.keep k) a hq)
  obtain ⟨k1, k2, k3, k4, k5, k6⟩ := obj_ok h.ok hq
  have hsz := h.sz
  have hcap := h.cap
  generalize objP (atT n W m C a) = q at *
  clear hq
  obtain ⟨⟨⟨c, ag, fw, mk, fi, dn⟩, r, d, kk⟩, x⟩ := q
  obtain ⟨p, rfl⟩ : ∃ p : Nat, a = p := ⟨a.toNat, by omega⟩
  dsimp only at *
  obtain ⟨rn, rfl⟩ : ∃ rn : Nat, r = rn := ⟨r.toNat, by omega⟩
  obtain ⟨dd, rfl⟩ : ∃ dd : Nat, d = dd := ⟨d.toNat, by omega⟩
  have HW1 := Lib.hid (show ((p : Int) + 1).toNat = p + 1 by omega)
  obtain ⟨p1, hp1⟩ : ∃ p1 : Nat, p1 = p + 1 := ⟨_, rfl⟩
  obtain ⟨p2, hp2⟩ : ∃ p2 : Nat, p2 = p + 2 := ⟨_, rfl⟩
  obtain ⟨p3, hp3⟩ : ∃ p3 : Nat, p3 = p2 + rn := ⟨_, rfl⟩
  obtain ⟨p4, hp4⟩ : ∃ p4 : Nat, p4 = p3 + dd := ⟨_, rfl⟩
  have g1 : IntKind.i64.wrap ((p : Int) + 1) = p1 := by rw [IntWalk.i64_in _ ⟨by omega, by omega⟩]; omega
  have g2 : IntKind.i64.wrap ((p : Int) + 2) = p2 := by rw [IntWalk.i64_in _ ⟨by omega, by omega⟩]; omega
  have g3 : IntKind.i64.wrap ((p2 : Int) + rn) = p3 := by rw [IntWalk.i64_in _ ⟨by omega, by omega⟩]; omega
  have g4 : IntKind.i64.wrap ((p3 : Int) + dd) = p4 := by rw [IntWalk.i64_in _ ⟨by omega, by omega⟩]; omega
  have l1 : p1 < n := by omega
  have l2 : p2 ≤ p3 := by omega
  have l3 : p3 ≤ p4 := by omega
  have l4 : p4 ≤ n := by omega
  have l5 : p3 ≤ wcp := by omega
  have l6 : p4 ≤ wcp := by omega
  obtain ⟨bw, off, rfl, d0⟩ := h.row.one l1
  have hrow := Lib.hid h.row
  have hptr := h.ptr
  have d1 : w.cell? ⟨bw, off + p1, none⟩ = some (.int .i64 (W p1)) := d0
  have zpa := block_lt_of_cell hptr
  have zbw := block_lt_of_cell d1
  dsimp only at zpa zbw
  have HP1 := Lib.hid hp1
  have HE1 := Lib.hid (show (List.range (p3 - p2)).map (fun j => W (p2 + j)) = refsOf W p (rn : Int).toNat from refs_eq W p rn p2 (p3 - p2) (by omega) (by omega))
  have HE2 := Lib.hid (show (List.range (p4 - p3)).map (fun j => W (p3 + j)) = refsOf W ((p : Int) + rn) (dd : Int).toNat from by
    have := refs_eq W (p + rn) dd p3 (p4 - p3) (by omega) (by omega)
    rw [Int.natCast_add] at this
    exact this)
  clear d0 h hp1 hp2 hp3 hp4 k1 k2 k3 k4 k5 k6
  have K0 := Touch.refl (fun _ => False) w
  unfold rstV hdV at *
  dsimp only at *
  go_enter Tryz.func65, Tryz.ntmps65
  go_wp2_with fail
  refine named (fun W1 hW1 => ?_)
  have KW1 : Keeps w W1 := by rw [hW1]; exact ((K0.alloc _).alloc _)
  have BW1_S : BL W1 (w.heap.size) 42 [.pointer (some ⟨pa, 0, none⟩), .slice A m cap] := by rw [hW1]; exact (BL.alloc (BL.new1 _ _ _ [.pointer (some ⟨pa, 0, none⟩), .slice A m cap] _ (by simp) rfl) _)
  have BW1_R : BL W1 (w.heap.size + 1) 135 [.int .i64 0, .int .i64 0, .int .i64 0, .bool false, .bool false, .bool false, .int .i64 0, .slice none 0 0, .slice none 0 0] := by rw [hW1]; exact (BL.new1 _ _ _ [.int .i64 0, .int .i64 0, .int .i64 0, .bool false, .bool false, .bool false, .int .i64 0, .slice none 0 0, .slice none 0 0] _ (by simp) rfl)
  have zW1 : w.heap.size + 2 ≤ W1.heap.size := by rw [hW1]; simp
  clear K0 hW1
  have l2 := BW1_S.lt
  have l3 := BW1_R.lt
  have c4 : W1.cell? ⟨w.heap.size, 0, none⟩ = some (.pointer (some ⟨pa, 0, none⟩)) := BW1_S.c 0 _ rfl
  have c5 : W1.cell? ⟨w.heap.size, 1, none⟩ = some (.slice A m cap) := BW1_S.c 1 _ rfl
  have hptrW1 := cell_keep hptr KW1
  have d1W1 := cell_keep d1 KW1
  have plW1 : pa < W1.heap.size := block_lt_of_cell hptrW1
  have blW1 : bw < W1.heap.size := block_lt_of_cell d1W1
  refine Calls.mono (HSh.out _ KW1) ?_
  rintro e w6 ⟨rfl, kw6⟩
  have Kw6 := Keeps.trans KW1 kw6
  have Bw6_S := BL.keep BW1_S kw6
  have Bw6_R := BL.keep BW1_R kw6
  have zw6 := kw6.size
  clear l2 l3 c4 c5 hptrW1 d1W1 plW1 blW1 BW1_S BW1_R KW1 kw6
  have l7 := Bw6_S.lt
  have l8 := Bw6_R.lt
  have c9 : w6.cell? ⟨w.heap.size, 0, none⟩ = some (.pointer (some ⟨pa, 0, none⟩)) := Bw6_S.c 0 _ rfl
  have c10 : w6.cell? ⟨w.heap.size, 1, none⟩ = some (.slice A m cap) := Bw6_S.c 1 _ rfl
  have hptrw6 := cell_keep hptr Kw6
  have d1w6 := cell_keep d1 Kw6
  have plw6 : pa < w6.heap.size := block_lt_of_cell hptrw6
  have blw6 : bw < w6.heap.size := block_lt_of_cell d1w6
  go_wp2_with fail
  refine Calls.mono (HHd.out _ Kw6) ?_
  rintro e w11 ⟨rfl, kw11⟩
  have Kw11 := Keeps.trans Kw6 kw11
  have Bw11_S := BL.keep Bw6_S kw11
  have Bw11_R := BL.keep Bw6_R kw11
  have zw11 := kw11.size
  clear l7 l8 c9 c10 hptrw6 d1w6 plw6 blw6 Bw6_S Bw6_R Kw6 kw11
  have l12 := Bw11_S.lt
  have l13 := Bw11_R.lt
  have c14 : w11.cell? ⟨w.heap.size, 0, none⟩ = some (.pointer (some ⟨pa, 0, none⟩)) := Bw11_S.c 0 _ rfl
  have c15 : w11.cell? ⟨w.heap.size, 1, none⟩ = some (.slice A m cap) := Bw11_S.c 1 _ rfl
  have hptrw11 := cell_keep hptr Kw11
  have d1w11 := cell_keep d1 Kw11
  have plw11 : pa < w11.heap.size := block_lt_of_cell hptrw11
  have blw11 : bw < w11.heap.size := block_lt_of_cell d1w11
  go_wp2_with fail
  refine named_code (fun W16 hW16 => ?_)
  have KW16 : Keeps w W16 := by rw [hW16]; exact (Kw11.alloc _)
  have BW16_S : BL W16 (w.heap.size) 42 [.pointer (some ⟨pa, 0, none⟩), .slice A m cap] := by rw [hW16]; exact (BL.alloc Bw11_S _)
  have BW16_R : BL W16 (w.heap.size + 1) 135 [.int .i64 0, .int .i64 0, .int .i64 0, .bool false, .bool false, .bool false, .int .i64 0, .slice none 0 0, .slice none 0 0] := by rw [hW16]; exact (BL.alloc Bw11_R _)
  have BW16_H : BL W16 (w11.heap.size) 103 [.int .i64 c, .int .i64 ag, .int .i64 fw, .bool mk, .bool fi, .bool dn] := by rw [hW16]; exact (BL.new1 _ _ _ [.int .i64 c, .int .i64 ag, .int .i64 fw, .bool mk, .bool fi, .bool dn] _ (by simp) rfl)
  have zW16 : w11.heap.size + 1 ≤ W16.heap.size := by rw [hW16]; simp
  clear l12 l13 c14 c15 hptrw11 d1w11 plw11 blw11 Bw11_S Bw11_R Kw11 hW16
  have l17 := BW16_S.lt
  have l18 := BW16_R.lt
  have l19 := BW16_H.lt
  have c20 : W16.cell? ⟨w.heap.size, 0, none⟩ = some (.pointer (some ⟨pa, 0, none⟩)) := BW16_S.c 0 _ rfl
  have c21 : W16.cell? ⟨w.heap.size, 1, none⟩ = some (.slice A m cap) := BW16_S.c 1 _ rfl
  have c22 : W16.cell? ⟨w11.heap.size, 0, none⟩ = some (.int .i64 c) := BW16_H.c 0 _ rfl
  have c23 : W16.cell? ⟨w11.heap.size, 1, none⟩ = some (.int .i64 ag) := BW16_H.c 1 _ rfl
  have c24 : W16.cell? ⟨w11.heap.size, 2, none⟩ = some (.int .i64 fw) := BW16_H.c 2 _ rfl
  have c25 : W16.cell? ⟨w11.heap.size, 3, none⟩ = some (.bool mk) := BW16_H.c 3 _ rfl
  have c26 : W16.cell? ⟨w11.heap.size, 4, none⟩ = some (.bool fi) := BW16_H.c 4 _ rfl
  have c27 : W16.cell? ⟨w11.heap.size, 5, none⟩ = some (.bool dn) := BW16_H.c 5 _ rfl
  have hptrW16 := cell_keep hptr KW16
  have d1W16 := cell_keep d1 KW16
  have plW16 : pa < W16.heap.size := block_lt_of_cell hptrW16
  have blW16 : bw < W16.heap.size := block_lt_of_cell d1W16
  have nP : pa ≠ w.heap.size + 1 := by omega
  have nD : bw ≠ w.heap.size + 1 := by omega
  have nS : w.heap.size ≠ w.heap.size + 1 := by omega
  have nH : w11.heap.size ≠ w.heap.size + 1 := by omega
  refine wp_region_noPanic ?_
  refine wp_region_held_drew (S := (fun w' => Only (w.heap.size + 1) W16 w')) (by kernel_rfl) (Only.refl _ W16).drew (fun hHeld => ?_)
  refine' wpAnyH_take (i := 0) ?hi0_1 ?hs0_1 ?hf0_1 ?hr0_1 ?hQ0_1 ?hy0_1 (by assumption) ?rest0_1
  case hi0_1 => simp only [List.getElem?_toArray, List.getElem?_cons_zero] <;> rfl
  case hs0_1 => kernel_rfl
  case hf0_1 => kernel_rfl
  case hr0_1 => kernel_rfl
  case hQ0_1 => exact fun _ _ _ h => h
  case hy0_1 => exact Or.inl ⟨by rfl, fun w hSw => by have q0 := cell_only c20 hSw nS; have q1 := cell_only c21 hSw nS; have q2 := cell_only c22 hSw nH; have q3 := cell_only c23 hSw nH; have q4 := cell_only c24 hSw nH; have q5 := cell_only c25 hSw nH; have q6 := cell_only c26 hSw nH; have q7 := cell_only c27 hSw nH; have q8 := cell_only hptrW16 hSw nP; have q9 := cell_only d1W16 hSw nD; go_simp <;> (try with_reducible rfl)⟩
  simp only [Act.put, List.setIfInBounds_toArray, List.set_cons_zero, List.set_cons_succ]
  refine' wpAnyH_take (i := 1) ?hi1_1 ?hs1_1 ?hf1_1 ?hr1_1 ?hQ1_1 ?hy1_1 (by assumption) ?rest1_1
  case hi1_1 => simp only [List.getElem?_toArray, List.getElem?_cons_succ, List.getElem?_cons_zero] <;> rfl
  case hs1_1 => kernel_rfl
  case hf1_1 => kernel_rfl
  case hr1_1 => kernel_rfl
  case hQ1_1 => exact fun _ _ _ h => h
  case hy1_1 => exact Or.inl ⟨by rfl, fun w hSw => by have q0 := cell_only c20 hSw nS; have q1 := cell_only c21 hSw nS; have q2 := cell_only c22 hSw nH; have q3 := cell_only c23 hSw nH; have q4 := cell_only c24 hSw nH; have q5 := cell_only c25 hSw nH; have q6 := cell_only c26 hSw nH; have q7 := cell_only c27 hSw nH; have q8 := cell_only hptrW16 hSw nP; have q9 := cell_only d1W16 hSw nD; go_simp <;> (try with_reducible rfl)⟩
  simp only [Act.put, List.setIfInBounds_toArray, List.set_cons_zero, List.set_cons_succ]
  refine' wpAnyH_take (i := 2) ?hi2_1 ?hs2_1 ?hf2_1 ?hr2_1 ?hQ2_1 ?hy2_1 (by assumption) ?rest2_1
  case hi2_1 => simp only [List.getElem?_toArray, List.getElem?_cons_succ, List.getElem?_cons_zero] <;> rfl
  case hs2_1 => kernel_rfl
  case hf2_1 => kernel_rfl
  case hr2_1 => kernel_rfl
  case hQ2_1 => exact fun _ _ _ h => h
  case hy2_1 => exact Or.inl ⟨by rfl, fun w hSw => by have q0 := cell_only c20 hSw nS; have q1 := cell_only c21 hSw nS; have q2 := cell_only c22 hSw nH; have q3 := cell_only c23 hSw nH; have q4 := cell_only c24 hSw nH; have q5 := cell_only c25 hSw nH; have q6 := cell_only c26 hSw nH; have q7 := cell_only c27 hSw nH; have q8 := cell_only hptrW16 hSw nP; have q9 := cell_only d1W16 hSw nD; go_simp <;> (try with_reducible rfl)⟩
  simp only [Act.put, List.setIfInBounds_toArray, List.set_cons_zero, List.set_cons_succ]
  refine' wpAnyH_take (i := 3) ?hi3_1 ?hs3_1 ?hf3_1 ?hr3_1 ?hQ3_1 ?hy3_1 (by assumption) ?rest3_1
  case hi3_1 => simp only [List.getElem?_toArray, List.getElem?_cons_succ, List.getElem?_cons_zero] <;> rfl
  case hs3_1 => kernel_rfl
  case hf3_1 => kernel_rfl
  case hr3_1 => kernel_rfl
  case hQ3_1 => exact fun _ _ _ h => h
  case hy3_1 => exact Or.inl ⟨by rfl, fun w hSw => by have q0 := cell_only c20 hSw nS; have q1 := cell_only c21 hSw nS; have q2 := cell_only c22 hSw nH; have q3 := cell_only c23 hSw nH; have q4 := cell_only c24 hSw nH; have q5 := cell_only c25 hSw nH; have q6 := cell_only c26 hSw nH; have q7 := cell_only c27 hSw nH; have q8 := cell_only hptrW16 hSw nP; have q9 := cell_only d1W16 hSw nD; go_simp <;> (try with_reducible rfl)⟩
  simp only [Act.put, List.setIfInBounds_toArray, List.set_cons_zero, List.set_cons_succ]
  refine' wpAnyH_take (i := 4) ?hi4_1 ?hs4_1 ?hf4_1 ?hr4_1 ?hQ4_1 ?hy4_1 (by assumption) ?rest4_1
  case hi4_1 => simp only [List.getElem?_toArray, List.getElem?_cons_succ, List.getElem?_cons_zero] <;> rfl
  case hs4_1 => kernel_rfl
  case hf4_1 => kernel_rfl
  case hr4_1 => kernel_rfl
  case hQ4_1 => exact fun _ _ _ h => h
  case hy4_1 => exact Or.inl ⟨by rfl, fun w hSw => by have q0 := cell_only c20 hSw nS; have q1 := cell_only c21 hSw nS; have q2 := cell_only c22 hSw nH; have q3 := cell_only c23 hSw nH; have q4 := cell_only c24 hSw nH; have q5 := cell_only c25 hSw nH; have q6 := cell_only c26 hSw nH; have q7 := cell_only c27 hSw nH; have q8 := cell_only hptrW16 hSw nP; have q9 := cell_only d1W16 hSw nD; go_simp <;> (try with_reducible rfl)⟩
  simp only [Act.put, List.setIfInBounds_toArray, List.set_cons_zero, List.set_cons_succ]
  refine' wpAnyH_take (i := 5) ?hi5_1 ?hs5_1 ?hf5_1 ?hr5_1 ?hQ5_1 ?hy5_1 (by assumption) ?rest5_1
  case hi5_1 => simp only [List.getElem?_toArray, List.getElem?_cons_succ, List.getElem?_cons_zero] <;> rfl
  case hs5_1 => kernel_rfl
  case hf5_1 => kernel_rfl
  case hr5_1 => kernel_rfl
  case hQ5_1 => exact fun _ _ _ h => h
  case hy5_1 => exact Or.inl ⟨by rfl, fun w hSw => by have q0 := cell_only c20 hSw nS; have q1 := cell_only c21 hSw nS; have q2 := cell_only c22 hSw nH; have q3 := cell_only c23 hSw nH; have q4 := cell_only c24 hSw nH; have q5 := cell_only c25 hSw nH; have q6 := cell_only c26 hSw nH; have q7 := cell_only c27 hSw nH; have q8 := cell_only hptrW16 hSw nP; have q9 := cell_only d1W16 hSw nD; go_simp <;> (try with_reducible rfl)⟩
  simp only [Act.put, List.setIfInBounds_toArray, List.set_cons_zero, List.set_cons_succ]
  refine' wpAnyH_take (i := 6) ?hi6_1 ?hs6_1 ?hf6_1 ?hr6_1 ?hQ6_1 ?hy6_1 (by assumption) ?rest6_1
  case hi6_1 => simp only [List.getElem?_toArray, List.getElem?_cons_succ, List.getElem?_cons_zero] <;> rfl
  case hs6_1 => kernel_rfl
  case hf6_1 => kernel_rfl
  case hr6_1 => kernel_rfl
  case hQ6_1 => exact fun _ _ _ h => h
  case hy6_1 => exact Or.inl ⟨by rfl, fun w hSw => by have q0 := cell_only c20 hSw nS; have q1 := cell_only c21 hSw nS; have q2 := cell_only c22 hSw nH; have q3 := cell_only c23 hSw nH; have q4 := cell_only c24 hSw nH; have q5 := cell_only c25 hSw nH; have q6 := cell_only c26 hSw nH; have q7 := cell_only c27 hSw nH; have q8 := cell_only hptrW16 hSw nP; have q9 := cell_only d1W16 hSw nD; go_simp <;> (try with_reducible rfl)⟩
  simp only [Act.put, List.setIfInBounds_toArray, List.set_cons_zero, List.set_cons_succ]
  refine' wpAnyH_take (i := 7) ?hi7_1 ?hs7_1 ?hf7_1 ?hr7_1 ?hQ7_1 ?hy7_1 (by assumption) ?rest7_1
  case hi7_1 => simp only [List.getElem?_toArray, List.getElem?_cons_succ, List.getElem?_cons_zero] <;> rfl
  case hs7_1 => kernel_rfl
  case hf7_1 => kernel_rfl
  case hr7_1 => kernel_rfl
  case hQ7_1 => exact fun _ _ _ h => h
  case hy7_1 => exact Or.inl ⟨by rfl, fun w hSw => by have q0 := cell_only c20 hSw nS; have q1 := cell_only c21 hSw nS; have q2 := cell_only c22 hSw nH; have q3 := cell_only c23 hSw nH; have q4 := cell_only c24 hSw nH; have q5 := cell_only c25 hSw nH; have q6 := cell_only c26 hSw nH; have q7 := cell_only c27 hSw nH; have q8 := cell_only hptrW16 hSw nP; have q9 := cell_only d1W16 hSw nD; go_simp <;> (try with_reducible rfl)⟩
  simp only [Act.put, List.setIfInBounds_toArray, List.set_cons_zero, List.set_cons_succ]
  refine' wpAnyH_take (i := 8) ?hi8_1 ?hs8_1 ?hf8_1 ?hr8_1 ?hQ8_1 ?hy8_1 (by assumption) ?rest8_1
  case hi8_1 => simp only [List.getElem?_toArray, List.getElem?_cons_succ, List.getElem?_cons_zero] <;> rfl
  case hs8_1 => kernel_rfl
  case hf8_1 => kernel_rfl
  case hr8_1 => kernel_rfl
  case hQ8_1 => exact fun _ _ _ h => h
  case hy8_1 => exact Or.inl ⟨by rfl, fun w hSw => by have q0 := cell_only c20 hSw nS; have q1 := cell_only c21 hSw nS; have q2 := cell_only c22 hSw nH; have q3 := cell_only c23 hSw nH; have q4 := cell_only c24 hSw nH; have q5 := cell_only c25 hSw nH; have q6 := cell_only c26 hSw nH; have q7 := cell_only c27 hSw nH; have q8 := cell_only hptrW16 hSw nP; have q9 := cell_only d1W16 hSw nD; go_simp <;> (try with_reducible rfl)⟩
  simp only [Act.put, List.setIfInBounds_toArray, List.set_cons_zero, List.set_cons_succ]
  refine' wpAnyH_take (i := 9) ?hi9_1 ?hs9_1 ?hf9_1 ?hr9_1 ?hQ9_1 ?hy9_1 (by assumption) ?rest9_1
  case hi9_1 => simp only [List.getElem?_toArray, List.getElem?_cons_succ, List.getElem?_cons_zero] <;> rfl
  case hs9_1 => kernel_rfl
  case hf9_1 => kernel_rfl
  case hr9_1 => kernel_rfl
  case hQ9_1 => exact fun _ _ _ h => h
  case hy9_1 => exact Or.inl ⟨by rfl, fun w hSw => by have q0 := cell_only c20 hSw nS; have q1 := cell_only c21 hSw nS; have q2 := cell_only c22 hSw nH; have q3 := cell_only c23 hSw nH; have q4 := cell_only c24 hSw nH; have q5 := cell_only c25 hSw nH; have q6 := cell_only c26 hSw nH; have q7 := cell_only c27 hSw nH; have q8 := cell_only hptrW16 hSw nP; have q9 := cell_only d1W16 hSw nD; go_simp <;> (try with_reducible rfl)⟩
  simp only [Act.put, List.setIfInBounds_toArray, List.set_cons_zero, List.set_cons_succ]
  refine' wpAnyH_take (i := 11) ?hi11_1 ?hs11_1 ?hf11_1 ?hr11_1 ?hQ11_1 ?hy11_1 (by assumption) ?rest11_1
  case hi11_1 => simp only [List.getElem?_toArray, List.getElem?_cons_succ, List.getElem?_cons_zero] <;> rfl
  case hs11_1 => kernel_rfl
  case hf11_1 => kernel_rfl
  case hr11_1 => kernel_rfl
  case hQ11_1 => exact fun _ _ _ h => h
  case hy11_1 => exact Or.inl ⟨by rfl, fun w hSw => by have q0 := cell_only c20 hSw nS; have q1 := cell_only c21 hSw nS; have q2 := cell_only c22 hSw nH; have q3 := cell_only c23 hSw nH; have q4 := cell_only c24 hSw nH; have q5 := cell_only c25 hSw nH; have q6 := cell_only c26 hSw nH; have q7 := cell_only c27 hSw nH; have q8 := cell_only hptrW16 hSw nP; have q9 := cell_only d1W16 hSw nD; go_simp <;> (try with_reducible rfl)⟩
  simp only [Act.put, List.setIfInBounds_toArray, List.set_cons_zero, List.set_cons_succ]
  refine' wpAnyH_take (i := 12) ?hi12_1 ?hs12_1 ?hf12_1 ?hr12_1 ?hQ12_1 ?hy12_1 (by assumption) ?rest12_1
  case hi12_1 => simp only [List.getElem?_toArray, List.getElem?_cons_succ, List.getElem?_cons_zero] <;> rfl
  case hs12_1 => kernel_rfl
  case hf12_1 => kernel_rfl
  case hr12_1 => kernel_rfl
  case hQ12_1 => exact fun _ _ _ h => h
  case hy12_1 => exact Or.inl ⟨by rfl, fun w hSw => by have q0 := cell_only c20 hSw nS; have q1 := cell_only c21 hSw nS; have q2 := cell_only c22 hSw nH; have q3 := cell_only c23 hSw nH; have q4 := cell_only c24 hSw nH; have q5 := cell_only c25 hSw nH; have q6 := cell_only c26 hSw nH; have q7 := cell_only c27 hSw nH; have q8 := cell_only hptrW16 hSw nP; have q9 := cell_only d1W16 hSw nD; go_simp <;> (try with_reducible rfl)⟩
  simp only [Act.put, List.setIfInBounds_toArray, List.set_cons_zero, List.set_cons_succ]
  refine' wpAnyH_take (i := 13) ?hi13_1 ?hs13_1 ?hf13_1 ?hr13_1 ?hQ13_1 ?hy13_1 (by assumption) ?rest13_1
  case hi13_1 => simp only [List.getElem?_toArray, List.getElem?_cons_succ, List.getElem?_cons_zero] <;> rfl
  case hs13_1 => kernel_rfl
  case hf13_1 => kernel_rfl
  case hr13_1 => kernel_rfl
  case hQ13_1 => exact fun _ _ _ h => h
  case hy13_1 => exact Or.inl ⟨by rfl, fun w hSw => by have q0 := cell_only c20 hSw nS; have q1 := cell_only c21 hSw nS; have q2 := cell_only c22 hSw nH; have q3 := cell_only c23 hSw nH; have q4 := cell_only c24 hSw nH; have q5 := cell_only c25 hSw nH; have q6 := cell_only c26 hSw nH; have q7 := cell_only c27 hSw nH; have q8 := cell_only hptrW16 hSw nP; have q9 := cell_only d1W16 hSw nD; go_simp <;> (try with_reducible rfl)⟩
  simp only [Act.put, List.setIfInBounds_toArray, List.set_cons_zero, List.set_cons_succ]
  refine' wpAnyH_take (i := 14) ?hi14_1 ?hs14_1 ?hf14_1 ?hr14_1 ?hQ14_1 ?hy14_1 (by assumption) ?rest14_1
  case hi14_1 => simp only [List.getElem?_toArray, List.getElem?_cons_succ, List.getElem?_cons_zero] <;> rfl
  case hs14_1 => kernel_rfl
  case hf14_1 => kernel_rfl
  case hr14_1 => kernel_rfl
  case hQ14_1 => exact fun _ _ _ h => h
  case hy14_1 => exact Or.inl ⟨by rfl, fun w hSw => by have q0 := cell_only c20 hSw nS; have q1 := cell_only c21 hSw nS; have q2 := cell_only c22 hSw nH; have q3 := cell_only c23 hSw nH; have q4 := cell_only c24 hSw nH; have q5 := cell_only c25 hSw nH; have q6 := cell_only c26 hSw nH; have q7 := cell_only c27 hSw nH; have q8 := cell_only hptrW16 hSw nP; have q9 := cell_only d1W16 hSw nD; go_simp <;> (try with_reducible rfl)⟩
  simp only [Act.put, List.setIfInBounds_toArray, List.set_cons_zero, List.set_cons_succ]
  refine' wpAnyH_take (i := 15) ?hi15_1 ?hs15_1 ?hf15_1 ?hr15_1 ?hQ15_1 ?hy15_1 (by assumption) ?rest15_1
  case hi15_1 => simp only [List.getElem?_toArray, List.getElem?_cons_succ, List.getElem?_cons_zero] <;> rfl
  case hs15_1 => kernel_rfl
  case hf15_1 => kernel_rfl
  case hr15_1 => kernel_rfl
  case hQ15_1 => exact fun _ _ _ h => h
  case hy15_1 => exact Or.inl ⟨by rfl, fun w hSw => by have q0 := cell_only c20 hSw nS; have q1 := cell_only c21 hSw nS; have q2 := cell_only c22 hSw nH; have q3 := cell_only c23 hSw nH; have q4 := cell_only c24 hSw nH; have q5 := cell_only c25 hSw nH; have q6 := cell_only c26 hSw nH; have q7 := cell_only c27 hSw nH; have q8 := cell_only hptrW16 hSw nP; have q9 := cell_only d1W16 hSw nD; go_simp <;> (try with_reducible rfl)⟩
  simp only [Act.put, List.setIfInBounds_toArray, List.set_cons_zero, List.set_cons_succ]
  refine' wpAnyH_take (i := 16) ?hi16_1 ?hs16_1 ?hf16_1 ?hr16_1 ?hQ16_1 ?hy16_1 (by assumption) ?rest16_1
  case hi16_1 => simp only [List.getElem?_toArray, List.getElem?_cons_succ, List.getElem?_cons_zero] <;> rfl
  case hs16_1 => kernel_rfl
  case hf16_1 => kernel_rfl
  case hr16_1 => kernel_rfl
  case hQ16_1 => exact fun _ _ _ h => h
  case hy16_1 => exact Or.inl ⟨by rfl, fun w hSw => by have q0 := cell_only c20 hSw nS; have q1 := cell_only c21 hSw nS; have q2 := cell_only c22 hSw nH; have q3 := cell_only c23 hSw nH; have q4 := cell_only c24 hSw nH; have q5 := cell_only c25 hSw nH; have q6 := cell_only c26 hSw nH; have q7 := cell_only c27 hSw nH; have q8 := cell_only hptrW16 hSw nP; have q9 := cell_only d1W16 hSw nD; go_simp <;> (try with_reducible rfl)⟩
  simp only [Act.put, List.setIfInBounds_toArray, List.set_cons_zero, List.set_cons_succ]
  refine' wpAnyH_take (i := 17) ?hi17_1 ?hs17_1 ?hf17_1 ?hr17_1 ?hQ17_1 ?hy17_1 (by assumption) ?rest17_1
  case hi17_1 => simp only [List.getElem?_toArray, List.getElem?_cons_succ, List.getElem?_cons_zero] <;> rfl
  case hs17_1 => kernel_rfl
  case hf17_1 => kernel_rfl
  case hr17_1 => kernel_rfl
  case hQ17_1 => exact fun _ _ _ h => h
  case hy17_1 => exact Or.inl ⟨by rfl, fun w hSw => by have q0 := cell_only c20 hSw nS; have q1 := cell_only c21 hSw nS; have q2 := cell_only c22 hSw nH; have q3 := cell_only c23 hSw nH; have q4 := cell_only c24 hSw nH; have q5 := cell_only c25 hSw nH; have q6 := cell_only c26 hSw nH; have q7 := cell_only c27 hSw nH; have q8 := cell_only hptrW16 hSw nP; have q9 := cell_only d1W16 hSw nD; go_simp <;> (try with_reducible rfl)⟩
  simp only [Act.put, List.setIfInBounds_toArray, List.set_cons_zero, List.set_cons_succ]
  refine' wpAnyH_take (i := 18) ?hi18_1 ?hs18_1 ?hf18_1 ?hr18_1 ?hQ18_1 ?hy18_1 (by assumption) ?rest18_1
  case hi18_1 => simp only [List.getElem?_toArray, List.getElem?_cons_succ, List.getElem?_cons_zero] <;> rfl
  case hs18_1 => kernel_rfl
  case hf18_1 => kernel_rfl
  case hr18_1 => kernel_rfl
  case hQ18_1 => exact fun _ _ _ h => h
  case hy18_1 => exact Or.inl ⟨by rfl, fun w hSw => by have q0 := cell_only c20 hSw nS; have q1 := cell_only c21 hSw nS; have q2 := cell_only c22 hSw nH; have q3 := cell_only c23 hSw nH; have q4 := cell_only c24 hSw nH; have q5 := cell_only c25 hSw nH; have q6 := cell_only c26 hSw nH; have q7 := cell_only c27 hSw nH; have q8 := cell_only hptrW16 hSw nP; have q9 := cell_only d1W16 hSw nD; go_simp <;> (try with_reducible rfl)⟩
  simp only [Act.put, List.setIfInBounds_toArray, List.set_cons_zero, List.set_cons_succ]
  refine' wpAnyH_take (i := 19) ?hi19_1 ?hs19_1 ?hf19_1 ?hr19_1 ?hQ19_1 ?hy19_1 (by assumption) ?rest19_1
  case hi19_1 => simp only [List.getElem?_toArray, List.getElem?_cons_succ, List.getElem?_cons_zero] <;> rfl
  case hs19_1 => kernel_rfl
  case hf19_1 => kernel_rfl
  case hr19_1 => kernel_rfl
  case hQ19_1 => exact fun _ _ _ h => h
  case hy19_1 => exact Or.inl ⟨by rfl, fun w hSw => by have q0 := cell_only c20 hSw nS; have q1 := cell_only c21 hSw nS; have q2 := cell_only c22 hSw nH; have q3 := cell_only c23 hSw nH; have q4 := cell_only c24 hSw nH; have q5 := cell_only c25 hSw nH; have q6 := cell_only c26 hSw nH; have q7 := cell_only c27 hSw nH; have q8 := cell_only hptrW16 hSw nP; have q9 := cell_only d1W16 hSw nD; go_simp <;> (try with_reducible rfl)⟩
  simp only [Act.put, List.setIfInBounds_toArray, List.set_cons_zero, List.set_cons_succ]
  refine' wpAnyH_take (i := 20) ?hi20_1 ?hs20_1 ?hf20_1 ?hr20_1 ?hQ20_1 ?hy20_1 (by assumption) ?rest20_1
  case hi20_1 => simp only [List.getElem?_toArray, List.getElem?_cons_succ, List.getElem?_cons_zero] <;> rfl
  case hs20_1 => kernel_rfl
  case hf20_1 => kernel_rfl
  case hr20_1 => kernel_rfl
  case hQ20_1 => exact fun _ _ _ h => h
  case hy20_1 => exact Or.inl ⟨by rfl, fun w hSw => by have q0 := cell_only c20 hSw nS; have q1 := cell_only c21 hSw nS; have q2 := cell_only c22 hSw nH; have q3 := cell_only c23 hSw nH; have q4 := cell_only c24 hSw nH; have q5 := cell_only c25 hSw nH; have q6 := cell_only c26 hSw nH; have q7 := cell_only c27 hSw nH; have q8 := cell_only hptrW16 hSw nP; have q9 := cell_only d1W16 hSw nD; go_simp <;> (try with_reducible rfl)⟩
  simp only [Act.put, List.setIfInBounds_toArray, List.set_cons_zero, List.set_cons_succ]
  refine' wpAnyH_take (i := 21) ?hi21_1 ?hs21_1 ?hf21_1 ?hr21_1 ?hQ21_1 ?hy21_1 (by assumption) ?rest21_1
  case hi21_1 => simp only [List.getElem?_toArray, List.getElem?_cons_succ, List.getElem?_cons_zero] <;> rfl
  case hs21_1 => kernel_rfl
  case hf21_1 => kernel_rfl
  case hr21_1 => kernel_rfl
  case hQ21_1 => exact fun _ _ _ h => h
  case hy21_1 => exact Or.inl ⟨by rfl, fun w hSw => by have q0 := cell_only c20 hSw nS; have q1 := cell_only c21 hSw nS; have q2 := cell_only c22 hSw nH; have q3 := cell_only c23 hSw nH; have q4 := cell_only c24 hSw nH; have q5 := cell_only c25 hSw nH; have q6 := cell_only c26 hSw nH; have q7 := cell_only c27 hSw nH; have q8 := cell_only hptrW16 hSw nP; have q9 := cell_only d1W16 hSw nD; go_simp <;> (try with_reducible rfl)⟩
  simp only [Act.put, List.setIfInBounds_toArray, List.set_cons_zero, List.set_cons_succ]
  refine' wpAnyH_take (i := 22) ?hi22_1 ?hs22_1 ?hf22_1 ?hr22_1 ?hQ22_1 ?hy22_1 (by assumption) ?rest22_1
  case hi22_1 => simp only [List.getElem?_toArray, List.getElem?_cons_succ, List.getElem?_cons_zero] <;> rfl
  case hs22_1 => kernel_rfl
  case hf22_1 => kernel_rfl
  case hr22_1 => kernel_rfl
  case hQ22_1 => exact fun _ _ _ h => h
  case hy22_1 => exact Or.inl ⟨by rfl, fun w hSw => by have q0 := cell_only c20 hSw nS; have q1 := cell_only c21 hSw nS; have q2 := cell_only c22 hSw nH; have q3 := cell_only c23 hSw nH; have q4 := cell_only c24 hSw nH; have q5 := cell_only c25 hSw nH; have q6 := cell_only c26 hSw nH; have q7 := cell_only c27 hSw nH; have q8 := cell_only hptrW16 hSw nP; have q9 := cell_only d1W16 hSw nD; go_simp <;> (try with_reducible rfl)⟩
  simp only [Act.put, List.setIfInBounds_toArray, List.set_cons_zero, List.set_cons_succ]
  refine' wpAnyH_take (i := 25) ?hi25_1 ?hs25_1 ?hf25_1 ?hr25_1 ?hQ25_1 ?hy25_1 (by assumption) ?rest25_1
  case hi25_1 => simp only [List.getElem?_toArray, List.getElem?_cons_succ, List.getElem?_cons_zero] <;> rfl
  case hs25_1 => kernel_rfl
  case hf25_1 => kernel_rfl
  case hr25_1 => kernel_rfl
  case hQ25_1 => exact fun _ _ _ h => h
  case hy25_1 => exact Or.inl ⟨by rfl, fun w hSw => by have q0 := cell_only c20 hSw nS; have q1 := cell_only c21 hSw nS; have q2 := cell_only c22 hSw nH; have q3 := cell_only c23 hSw nH; have q4 := cell_only c24 hSw nH; have q5 := cell_only c25 hSw nH; have q6 := cell_only c26 hSw nH; have q7 := cell_only c27 hSw nH; have q8 := cell_only hptrW16 hSw nP; have q9 := cell_only d1W16 hSw nD; go_simp <;> (try with_reducible rfl)⟩
  simp only [Act.put, List.setIfInBounds_toArray, List.set_cons_zero, List.set_cons_succ]
  refine' wpAnyH_take (i := 26) ?hi26_1 ?hs26_1 ?hf26_1 ?hr26_1 ?hQ26_1 ?hy26_1 (by assumption) ?rest26_1
  case hi26_1 => simp only [List.getElem?_toArray, List.getElem?_cons_succ, List.getElem?_cons_zero] <;> rfl
  case hs26_1 => kernel_rfl
  case hf26_1 => kernel_rfl
  case hr26_1 => kernel_rfl
  case hQ26_1 => exact fun _ _ _ h => h
  case hy26_1 => exact Or.inl ⟨by rfl, fun w hSw => by have q0 := cell_only c20 hSw nS; have q1 := cell_only c21 hSw nS; have q2 := cell_only c22 hSw nH; have q3 := cell_only c23 hSw nH; have q4 := cell_only c24 hSw nH; have q5 := cell_only c25 hSw nH; have q6 := cell_only c26 hSw nH; have q7 := cell_only c27 hSw nH; have q8 := cell_only hptrW16 hSw nP; have q9 := cell_only d1W16 hSw nD; go_simp <;> (try with_reducible rfl)⟩
  simp only [Act.put, List.setIfInBounds_toArray, List.set_cons_zero, List.set_cons_succ]
  refine' wpAnyH_take (i := 27) ?hi27_1 ?hs27_1 ?hf27_1 ?hr27_1 ?hQ27_1 ?hy27_1 (by assumption) ?rest27_1
  case hi27_1 => simp only [List.getElem?_toArray, List.getElem?_cons_succ, List.getElem?_cons_zero] <;> rfl
  case hs27_1 => kernel_rfl
  case hf27_1 => kernel_rfl
  case hr27_1 => kernel_rfl
  case hQ27_1 => exact fun _ _ _ h => h
  case hy27_1 => exact Or.inl ⟨by rfl, fun w hSw => by have q0 := cell_only c20 hSw nS; have q1 := cell_only c21 hSw nS; have q2 := cell_only c22 hSw nH; have q3 := cell_only c23 hSw nH; have q4 := cell_only c24 hSw nH; have q5 := cell_only c25 hSw nH; have q6 := cell_only c26 hSw nH; have q7 := cell_only c27 hSw nH; have q8 := cell_only hptrW16 hSw nP; have q9 := cell_only d1W16 hSw nD; go_simp <;> (try with_reducible rfl)⟩
  simp only [Act.put, List.setIfInBounds_toArray, List.set_cons_zero, List.set_cons_succ]
  refine' wpAnyH_take (i := 28) ?hi28_1 ?hs28_1 ?hf28_1 ?hr28_1 ?hQ28_1 ?hy28_1 (by assumption) ?rest28_1
  case hi28_1 => simp only [List.getElem?_toArray, List.getElem?_cons_succ, List.getElem?_cons_zero] <;> rfl
  case hs28_1 => kernel_rfl
  case hf28_1 => kernel_rfl
  case hr28_1 => kernel_rfl
  case hQ28_1 => exact fun _ _ _ h => h
  case hy28_1 => exact Or.inl ⟨by rfl, fun w hSw => by have q0 := cell_only c20 hSw nS; have q1 := cell_only c21 hSw nS; have q2 := cell_only c22 hSw nH; have q3 := cell_only c23 hSw nH; have q4 := cell_only c24 hSw nH; have q5 := cell_only c25 hSw nH; have q6 := cell_only c26 hSw nH; have q7 := cell_only c27 hSw nH; have q8 := cell_only hptrW16 hSw nP; have q9 := cell_only d1W16 hSw nD; go_simp <;> (try with_reducible rfl)⟩
  simp only [Act.put, List.setIfInBounds_toArray, List.set_cons_zero, List.set_cons_succ]
  refine' wpAnyH_take (i := 29) ?hi29_1 ?hs29_1 ?hf29_1 ?hr29_1 ?hQ29_1 ?hy29_1 (by assumption) ?rest29_1
  case hi29_1 => simp only [List.getElem?_toArray, List.getElem?_cons_succ, List.getElem?_cons_zero] <;> rfl
  case hs29_1 => kernel_rfl
  case hf29_1 => kernel_rfl
  case hr29_1 => kernel_rfl
  case hQ29_1 => exact fun _ _ _ h => h
  case hy29_1 => exact Or.inl ⟨by rfl, fun w hSw => by have q0 := cell_only c20 hSw nS; have q1 := cell_only c21 hSw nS; have q2 := cell_only c22 hSw nH; have q3 := cell_only c23 hSw nH; have q4 := cell_only c24 hSw nH; have q5 := cell_only c25 hSw nH; have q6 := cell_only c26 hSw nH; have q7 := cell_only c27 hSw nH; have q8 := cell_only hptrW16 hSw nP; have q9 := cell_only d1W16 hSw nD; go_simp <;> (try with_reducible rfl)⟩
  simp only [Act.put, List.setIfInBounds_toArray, List.set_cons_zero, List.set_cons_succ]
  refine' wpAnyH_take (i := 30) ?hi30_1 ?hs30_1 ?hf30_1 ?hr30_1 ?hQ30_1 ?hy30_1 (by assumption) ?rest30_1
  case hi30_1 => simp only [List.getElem?_toArray, List.getElem?_cons_succ, List.getElem?_cons_zero] <;> rfl
  case hs30_1 => kernel_rfl
  case hf30_1 => kernel_rfl
  case hr30_1 => kernel_rfl
  case hQ30_1 => exact fun _ _ _ h => h
  case hy30_1 => exact Or.inl ⟨by rfl, fun w hSw => by have q0 := cell_only c20 hSw nS; have q1 := cell_only c21 hSw nS; have q2 := cell_only c22 hSw nH; have q3 := cell_only c23 hSw nH; have q4 := cell_only c24 hSw nH; have q5 := cell_only c25 hSw nH; have q6 := cell_only c26 hSw nH; have q7 := cell_only c27 hSw nH; have q8 := cell_only hptrW16 hSw nP; have q9 := cell_only d1W16 hSw nD; go_simp <;> (try with_reducible rfl)⟩
  simp only [Act.put, List.setIfInBounds_toArray, List.set_cons_zero, List.set_cons_succ]
  refine' wpAnyH_take (i := 31) ?hi31_1 ?hs31_1 ?hf31_1 ?hr31_1 ?hQ31_1 ?hy31_1 (by assumption) ?rest31_1
  case hi31_1 => simp only [List.getElem?_toArray, List.getElem?_cons_succ, List.getElem?_cons_zero] <;> rfl
  case hs31_1 => kernel_rfl
  case hf31_1 => kernel_rfl
  case hr31_1 => kernel_rfl
  case hQ31_1 => exact fun _ _ _ h => h
  case hy31_1 => exact Or.inl ⟨by rfl, fun w hSw => by have q0 := cell_only c20 hSw nS; have q1 := cell_only c21 hSw nS; have q2 := cell_only c22 hSw nH; have q3 := cell_only c23 hSw nH; have q4 := cell_only c24 hSw nH; have q5 := cell_only c25 hSw nH; have q6 := cell_only c26 hSw nH; have q7 := cell_only c27 hSw nH; have q8 := cell_only hptrW16 hSw nP; have q9 := cell_only d1W16 hSw nD; go_simp <;> (try with_reducible rfl)⟩
  simp only [Act.put, List.setIfInBounds_toArray, List.set_cons_zero, List.set_cons_succ]
  refine' wpAnyH_take (i := 32) ?hi32_1 ?hs32_1 ?hf32_1 ?hr32_1 ?hQ32_1 ?hy32_1 (by assumption) ?rest32_1
  case hi32_1 => simp only [List.getElem?_toArray, List.getElem?_cons_succ, List.getElem?_cons_zero] <;> rfl
  case hs32_1 => kernel_rfl
  case hf32_1 => kernel_rfl
  case hr32_1 => kernel_rfl
  case hQ32_1 => exact fun _ _ _ h => h
  case hy32_1 => exact Or.inl ⟨by rfl, fun w hSw => by have q0 := cell_only c20 hSw nS; have q1 := cell_only c21 hSw nS; have q2 := cell_only c22 hSw nH; have q3 := cell_only c23 hSw nH; have q4 := cell_only c24 hSw nH; have q5 := cell_only c25 hSw nH; have q6 := cell_only c26 hSw nH; have q7 := cell_only c27 hSw nH; have q8 := cell_only hptrW16 hSw nP; have q9 := cell_only d1W16 hSw nD; go_simp <;> (try with_reducible rfl)⟩
  simp only [Act.put, List.setIfInBounds_toArray, List.set_cons_zero, List.set_cons_succ]
  refine' wpAnyH_take (i := 33) ?hi33_1 ?hs33_1 ?hf33_1 ?hr33_1 ?hQ33_1 ?hy33_1 (by assumption) ?rest33_1
  case hi33_1 => simp only [List.getElem?_toArray, List.getElem?_cons_succ, List.getElem?_cons_zero] <;> rfl
  case hs33_1 => kernel_rfl
  case hf33_1 => kernel_rfl
  case hr33_1 => kernel_rfl
  case hQ33_1 => exact fun _ _ _ h => h
  case hy33_1 => exact Or.inl ⟨by rfl, fun w hSw => by have q0 := cell_only c20 hSw nS; have q1 := cell_only c21 hSw nS; have q2 := cell_only c22 hSw nH; have q3 := cell_only c23 hSw nH; have q4 := cell_only c24 hSw nH; have q5 := cell_only c25 hSw nH; have q6 := cell_only c26 hSw nH; have q7 := cell_only c27 hSw nH; have q8 := cell_only hptrW16 hSw nP; have q9 := cell_only d1W16 hSw nD; go_simp <;> (try with_reducible rfl)⟩
  simp only [Act.put, List.setIfInBounds_toArray, List.set_cons_zero, List.set_cons_succ]
  refine' wpAnyH_take (i := 34) ?hi34_1 ?hs34_1 ?hf34_1 ?hr34_1 ?hQ34_1 ?hy34_1 (by assumption) ?rest34_1
  case hi34_1 => simp only [List.getElem?_toArray, List.getElem?_cons_succ, List.getElem?_cons_zero] <;> rfl
  case hs34_1 => kernel_rfl
  case hf34_1 => kernel_rfl
  case hr34_1 => kernel_rfl
  case hQ34_1 => exact fun _ _ _ h => h
  case hy34_1 => exact Or.inl ⟨by rfl, fun w hSw => by have q0 := cell_only c20 hSw nS; have q1 := cell_only c21 hSw nS; have q2 := cell_only c22 hSw nH; have q3 := cell_only c23 hSw nH; have q4 := cell_only c24 hSw nH; have q5 := cell_only c25 hSw nH; have q6 := cell_only c26 hSw nH; have q7 := cell_only c27 hSw nH; have q8 := cell_only hptrW16 hSw nP; have q9 := cell_only d1W16 hSw nD; go_simp <;> (try with_reducible rfl)⟩
  simp only [Act.put, List.setIfInBounds_toArray, List.set_cons_zero, List.set_cons_succ]
  refine' wpAnyH_take (i := 35) ?hi35_1 ?hs35_1 ?hf35_1 ?hr35_1 ?hQ35_1 ?hy35_1 (by assumption) ?rest35_1
  case hi35_1 => simp only [List.getElem?_toArray, List.getElem?_cons_succ, List.getElem?_cons_zero] <;> rfl
  case hs35_1 => kernel_rfl
  case hf35_1 => kernel_rfl
  case hr35_1 => kernel_rfl
  case hQ35_1 => exact fun _ _ _ h => h
  case hy35_1 => exact Or.inl ⟨by rfl, fun w hSw => by have q0 := cell_only c20 hSw nS; have q1 := cell_only c21 hSw nS; have q2 := cell_only c22 hSw nH; have q3 := cell_only c23 hSw nH; have q4 := cell_only c24 hSw nH; have q5 := cell_only c25 hSw nH; have q6 := cell_only c26 hSw nH; have q7 := cell_only c27 hSw nH; have q8 := cell_only hptrW16 hSw nP; have q9 := cell_only d1W16 hSw nD; go_simp <;> (try with_reducible rfl)⟩
  simp only [Act.put, List.setIfInBounds_toArray, List.set_cons_zero, List.set_cons_succ]
  refine' wpAnyH_take (i := 36) ?hi36_1 ?hs36_1 ?hf36_1 ?hr36_1 ?hQ36_1 ?hy36_1 (by assumption) ?rest36_1
  case hi36_1 => simp only [List.getElem?_toArray, List.getElem?_cons_succ, List.getElem?_cons_zero] <;> rfl
  case hs36_1 => kernel_rfl
  case hf36_1 => kernel_rfl
  case hr36_1 => kernel_rfl
  case hQ36_1 => exact fun _ _ _ h => h
  case hy36_1 => exact Or.inl ⟨by rfl, fun w hSw => by have q0 := cell_only c20 hSw nS; have q1 := cell_only c21 hSw nS; have q2 := cell_only c22 hSw nH; have q3 := cell_only c23 hSw nH; have q4 := cell_only c24 hSw nH; have q5 := cell_only c25 hSw nH; have q6 := cell_only c26 hSw nH; have q7 := cell_only c27 hSw nH; have q8 := cell_only hptrW16 hSw nP; have q9 := cell_only d1W16 hSw nD; go_simp <;> (try with_reducible rfl)⟩
  simp only [Act.put, List.setIfInBounds_toArray, List.set_cons_zero, List.set_cons_succ]
  refine' wpAnyH_take (i := 37) ?hi37_1 ?hs37_1 ?hf37_1 ?hr37_1 ?hQ37_1 ?hy37_1 (by assumption) ?rest37_1
  case hi37_1 => simp only [List.getElem?_toArray, List.getElem?_cons_succ, List.getElem?_cons_zero] <;> rfl
  case hs37_1 => kernel_rfl
  case hf37_1 => kernel_rfl
  case hr37_1 => kernel_rfl
  case hQ37_1 => exact fun _ _ _ h => h
  case hy37_1 => exact Or.inl ⟨by rfl, fun w hSw => by have q0 := cell_only c20 hSw nS; have q1 := cell_only c21 hSw nS; have q2 := cell_only c22 hSw nH; have q3 := cell_only c23 hSw nH; have q4 := cell_only c24 hSw nH; have q5 := cell_only c25 hSw nH; have q6 := cell_only c26 hSw nH; have q7 := cell_only c27 hSw nH; have q8 := cell_only hptrW16 hSw nP; have q9 := cell_only d1W16 hSw nD; go_simp <;> (try with_reducible rfl)⟩
  simp only [Act.put, List.setIfInBounds_toArray, List.set_cons_zero, List.set_cons_succ]
  refine' wpAnyH_take (i := 38) ?hi38_1 ?hs38_1 ?hf38_1 ?hr38_1 ?hQ38_1 ?hy38_1 (by assumption) ?rest38_1
  case hi38_1 => simp only [List.getElem?_toArray, List.getElem?_cons_succ, List.getElem?_cons_zero] <;> rfl
  case hs38_1 => kernel_rfl
  case hf38_1 => kernel_rfl
  case hr38_1 => kernel_rfl
  case hQ38_1 => exact fun _ _ _ h => h
  case hy38_1 => exact Or.inl ⟨by rfl, fun w hSw => by have q0 := cell_only c20 hSw nS; have q1 := cell_only c21 hSw nS; have q2 := cell_only c22 hSw nH; have q3 := cell_only c23 hSw nH; have q4 := cell_only c24 hSw nH; have q5 := cell_only c25 hSw nH; have q6 := cell_only c26 hSw nH; have q7 := cell_only c27 hSw nH; have q8 := cell_only hptrW16 hSw nP; have q9 := cell_only d1W16 hSw nD; go_simp <;> (try with_reducible rfl)⟩
  simp only [Act.put, List.setIfInBounds_toArray, List.set_cons_zero, List.set_cons_succ]
  refine' wpAnyH_take (i := 39) ?hi39_1 ?hs39_1 ?hf39_1 ?hr39_1 ?hQ39_1 ?hy39_1 (by assumption) ?rest39_1
  case hi39_1 => simp only [List.getElem?_toArray, List.getElem?_cons_succ, List.getElem?_cons_zero] <;> rfl
  case hs39_1 => kernel_rfl
  case hf39_1 => kernel_rfl
  case hr39_1 => kernel_rfl
  case hQ39_1 => exact fun _ _ _ h => h
  case hy39_1 => exact Or.inl ⟨by rfl, fun w hSw => by have q0 := cell_only c20 hSw nS; have q1 := cell_only c21 hSw nS; have q2 := cell_only c22 hSw nH; have q3 := cell_only c23 hSw nH; have q4 := cell_only c24 hSw nH; have q5 := cell_only c25 hSw nH; have q6 := cell_only c26 hSw nH; have q7 := cell_only c27 hSw nH; have q8 := cell_only hptrW16 hSw nP; have q9 := cell_only d1W16 hSw nD; go_simp <;> (try with_reducible rfl)⟩
  simp only [Act.put, List.setIfInBounds_toArray, List.set_cons_zero, List.set_cons_succ]
  refine' wpAnyH_take (i := 40) ?hi40_1 ?hs40_1 ?hf40_1 ?hr40_1 ?hQ40_1 ?hy40_1 (by assumption) ?rest40_1
  case hi40_1 => simp only [List.getElem?_toArray, List.getElem?_cons_succ, List.getElem?_cons_zero] <;> rfl
  case hs40_1 => kernel_rfl
  case hf40_1 => kernel_rfl
  case hr40_1 => kernel_rfl
  case hQ40_1 => exact fun _ _ _ h => h
  case hy40_1 => exact Or.inl ⟨by rfl, fun w hSw => by have q0 := cell_only c20 hSw nS; have q1 := cell_only c21 hSw nS; have q2 := cell_only c22 hSw nH; have q3 := cell_only c23 hSw nH; have q4 := cell_only c24 hSw nH; have q5 := cell_only c25 hSw nH; have q6 := cell_only c26 hSw nH; have q7 := cell_only c27 hSw nH; have q8 := cell_only hptrW16 hSw nP; have q9 := cell_only d1W16 hSw nD; go_simp <;> (try with_reducible rfl)⟩
  simp only [Act.put, List.setIfInBounds_toArray, List.set_cons_zero, List.set_cons_succ]
  have kk0 : Keeps W16 W16.drew := (Touch.refl _ W16).drew
  refine wpAnyH_ready (rs := [10, 24]) (by kernel_rfl) (by simp) ?_
  refine (AllReadyH.cons rfl (fun K hK => ?_) (AllReadyH.cons rfl (fun K hK => ?_) AllReadyH.nil))
  · go_simp
    have kb1 : Keeps W16 (W16.drew.alloc (.cells #[] 3)) := Touch.alloc kk0 _
    have b1 : OwnInts (W16.drew.alloc (.cells #[] 3)) W16.heap.size (.slice (some ⟨W16.heap.size, 0, none⟩) 0 0) [] := own_empty _ _ _ (by simp) (by have := kk0.size; first | omega | (simp at this; omega))
    obtain ⟨B1, hB1⟩ : ∃ b : Nat, b = W16.heap.size := ⟨_, rfl⟩
    refine hK.out _ _ (Touch.only kb1) (fun hHeld => ?_)
    clear hK K
    refine wpAnyH_ready (rs := [23, 24]) (by kernel_rfl) (by simp) ?_
    refine (AllReadyH.cons rfl (fun K hK => ?_) (AllReadyH.cons rfl (fun K hK => ?_) AllReadyH.nil))
    · rw [if_pos (show Region.wanted _ _ = true from rfl)]
      refine wp_app_ints (.tmp 33) (.tmp 45) rfl W16.heap.size (.slice (some ⟨W16.heap.size, 0, none⟩) 0 0) [] b1 rfl ⟨bw, off + (if wcp = p2 then 0 else p2), none⟩ (p3 - p2) _ (by show Value.slice (if wcp = p2 then some ⟨bw, off, none⟩ else some ⟨bw, off + p2, none⟩) _ _ = _; rw [slice_ad]) _ (rd_sub (hrow.out.keep (Keeps.trans KW16 kb1)) p2 (p3 - p2) (by omega) hcap) (by simp; omega) (by have := kb1.size; first | omega | (simp at this ⊢ <;> omega)) ?_
      intro v2 W102 hown2 hgr2 hblx2
      have hbl2 := Lib.hid (show v2.ownBlock = some (W16.heap.size) ∨ v2.ownBlock = some (W16.heap.size + 1) by simpa [Value.ownBlock] using hblx2)
      clear hblx2
      have ka2 : Keeps W16 W102 := Keeps.grown kb1 hgr2 (fun k e => by have := (b1.lt k e).1; omega)
      have sz2 : W16.heap.size + 1 ≤ W102.heap.size := by have := hgr2.size; simpa using this
      have hlt2 : ∀ k, v2.ownBlock = some k → k < W102.heap.size := fun k e => (hown2.lt k e).2
      obtain ⟨ae2, ce2, hv2⟩ := hown2.form
      simp only [List.nil_append, List.length_map, List.length_range] at hv2 hown2
      subst hv2
      refine hK.out _ _ (Touch.only ka2) (fun hHeld => ?_)
      clear hK K
      simp only [Act.put, List.setIfInBounds_toArray, List.set_cons_zero, List.set_cons_succ]
      refine wpAnyH_ready (rs := [24]) (by kernel_rfl) (by simp) ?_
      refine (AllReadyH.cons rfl (fun K hK => ?_) AllReadyH.nil)
      go_simp
      have kb3 : Keeps W16 (W102.alloc (.cells #[] 3)) := Touch.alloc ka2 _
      have b3 : OwnInts (W102.alloc (.cells #[] 3)) W16.heap.size (.slice (some ⟨W102.heap.size, 0, none⟩) 0 0) [] := own_empty _ _ _ (by simp) (by have := ka2.size; first | omega | (simp at this; omega))
      obtain ⟨B3, hB3⟩ : ∃ b : Nat, b = W102.heap.size := ⟨_, rfl⟩
      have o3_1 := hown2.alloc (.cells #[] 3)
      refine hK.out _ _ (Touch.only kb3) (fun hHeld => ?_)
      clear hK K
      refine wpAnyH_ready (rs := [41]) (by kernel_rfl) (by simp) ?_
      refine (AllReadyH.cons rfl (fun K hK => ?_) AllReadyH.nil)
      rw [if_pos (show Region.wanted _ _ = true from rfl)]
      refine wp_app_ints (.tmp 47) (.tmp 63) rfl W16.heap.size (.slice (some ⟨W102.heap.size, 0, none⟩) 0 0) [] b3 rfl ⟨bw, off + (if wcp = p3 then 0 else p3), none⟩ (p4 - p3) _ (by show Value.slice (if wcp = p3 then some ⟨bw, off, none⟩ else some ⟨bw, off + p3, none⟩) _ _ = _; rw [slice_ad]) _ (rd_sub (hrow.out.keep (Keeps.trans KW16 kb3)) p3 (p4 - p3) (by omega) hcap) (by simp; omega) (by have := kb3.size; first | omega | (simp at this ⊢ <;> omega)) ?_
      intro v4 W104 hown4 hgr4 hblx4
      have hbl4 := Lib.hid (show v4.ownBlock = some (W102.heap.size) ∨ v4.ownBlock = some (W102.heap.size + 1) by simpa [Value.ownBlock] using hblx4)
      clear hblx4
      have ka4 : Keeps W16 W104 := Keeps.grown kb3 hgr4 (fun k e => by have := (b3.lt k e).1; omega)
      have sz4 : W102.heap.size + 1 ≤ W104.heap.size := by have := hgr4.size; simpa using this
      have hlt4 : ∀ k, v4.ownBlock = some k → k < W104.heap.size := fun k e => (hown4.lt k e).2
      have o4_1 := o3_1.grown hgr4 (.inr (fun e => by have e2 : _ = some (W102.heap.size) := e; have q := hlt2 _ e2; rcases hbl2.out with h1 | h1 <;> rw [h1] at e2 <;> simp only [Option.some.injEq] at e2 <;> omega))
      obtain ⟨ae4, ce4, hv4⟩ := hown4.form
      simp only [List.nil_append, List.length_map, List.length_range] at hv4 hown4
      subst hv4
      refine hK.out _ _ (Touch.only ka4) (fun hHeld => ?_)
      clear hK K
      simp only [Act.put, List.setIfInBounds_toArray, List.set_cons_zero, List.set_cons_succ]
      refine' wpAnyH_take (i := 42) ?hi42_2 ?hs42_2 ?hf42_2 ?hr42_2 ?hQ42_2 ?hy42_2 (by assumption) ?rest42_2
      case hi42_2 => simp only [List.getElem?_toArray, List.getElem?_cons_succ, List.getElem?_cons_zero] <;> rfl
      case hs42_2 => kernel_rfl
      case hf42_2 => kernel_rfl
      case hr42_2 => kernel_rfl
      case hQ42_2 => exact fun _ _ _ h => h
      case hy42_2 => exact Or.inl ⟨by rfl, fun w hSw => by go_simp <;> (try with_reducible rfl)⟩
      simp only [Act.put, List.setIfInBounds_toArray, List.set_cons_zero, List.set_cons_succ]
      refine wpAnyH_ready (rs := [43]) (by kernel_rfl) (by simp) ?_
      refine (AllReadyH.cons rfl (fun K hK => ?_) AllReadyH.nil)
      rw [if_pos (show Region.wanted _ _ = true from rfl)]
      refine wp_store_bl 135 (.tmp 4) (.tmp 65) rfl (BL.keep BW16_R ka4) rfl [.int .i64 c, .int .i64 ag, .int .i64 fw, .bool mk, .bool fi, .bool dn, .int .i64 (W p1), .slice ae2 (p3 - p2) ce2, .slice ae4 (p4 - p3) ce4] rfl sz_robj rfl rfl ?_
      intro X BX kX
      refine hK.out _ _ ((Touch.only ka4).trans_ kX) (fun hHeld => ?_)
      clear hK K
      simp only [Act.put, List.setIfInBounds_toArray, List.set_cons_zero, List.set_cons_succ]
      refine wpAnyH_done (by kernel_rfl) ?_ _
      refine NoPanic.normal ?_
      have s0 := BX.c 0 (.int .i64 c) rfl
      have s1 := BX.c 1 (.int .i64 ag) rfl
      have s2 := BX.c 2 (.int .i64 fw) rfl
      have s3 := BX.c 3 (.bool mk) rfl
      have s4 := BX.c 4 (.bool fi) rfl
      have s5 := BX.c 5 (.bool dn) rfl
      have s6 := BX.c 6 (.int .i64 (W p1)) rfl
      have s7 := BX.c 7 (.slice ae2 (p3 - p2) ce2) rfl
      have s8 := BX.c 8 (.slice ae4 (p4 - p3) ce4) rfl
      have zl := ka4.size
      have OX1 := (o4_1.touch kX (fun k e h => by have := (o4_1.lt k e).1; omega)).mono (show w.heap.size ≤ W16.heap.size by omega)
      have OX2 := (hown4.touch kX (fun k e h => by have := (hown4.lt k e).1; omega)).mono (show w.heap.size ≤ W16.heap.size by omega)
      rw [HE1.out] at OX1
      rw [HE2.out] at OX2
      have OH1 := Lib.hid OX1
      have OH2 := Lib.hid OX2
      clear OX1 OX2 b1 hown2 b3 o3_1 hown4 o4_1
      go_wp2_with fail
      all_goals refine bodyPost_ret (v := .agg #[.int .i64 c, .int .i64 ag, .int .i64 fw, .bool mk, .bool fi, .bool dn, .int .i64 (W p1), .slice ae2 (p3 - p2) ce2, .slice ae4 (p4 - p3) ce4]) (by simp [results, Tryz.results65, go_sem, s0, s1, s2, s3, s4, s5, s6, s7, s8]) rfl ⟨_, _, by rw [HW1.out, HP1.out], OH1.out, OH2.out, Touch.new (Keeps.trans KW16 ka4) kX (by omega)⟩
    · go_simp
      have kb6 : Keeps W16 ((W16.drew.alloc (.cells #[] 3)).alloc (.cells #[] 3)) := Touch.alloc kb1 _
      have b6 : OwnInts ((W16.drew.alloc (.cells #[] 3)).alloc (.cells #[] 3)) W16.heap.size (.slice (some ⟨W16.heap.size + 1, 0, none⟩) 0 0) [] := own_empty _ _ _ (by simp) (by have := kb1.size; first | omega | (simp at this; omega))
      obtain ⟨B6, hB6⟩ : ∃ b : Nat, b = W16.heap.size + 1 := ⟨_, rfl⟩
      have o6_1 := b1.alloc (.cells #[] 3)
      refine hK.out _ _ (Touch.only kb6) (fun hHeld => ?_)
      clear hK K
      refine wpAnyH_ready (rs := [23]) (by kernel_rfl) (by simp) ?_
      refine (AllReadyH.cons rfl (fun K hK => ?_) AllReadyH.nil)
      rw [if_pos (show Region.wanted _ _ = true from rfl)]
      refine wp_app_ints (.tmp 33) (.tmp 45) rfl W16.heap.size (.slice (some ⟨W16.heap.size, 0, none⟩) 0 0) [] o6_1 rfl ⟨bw, off + (if wcp = p2 then 0 else p2), none⟩ (p3 - p2) _ (by show Value.slice (if wcp = p2 then some ⟨bw, off, none⟩ else some ⟨bw, off + p2, none⟩) _ _ = _; rw [slice_ad]) _ (rd_sub (hrow.out.keep (Keeps.trans KW16 kb6)) p2 (p3 - p2) (by omega) hcap) (by simp; omega) (by have := kb6.size; first | omega | (simp at this ⊢ <;> omega)) ?_
      intro v7 W107 hown7 hgr7 hblx7
      have hbl7 := Lib.hid (show v7.ownBlock = some (W16.heap.size) ∨ v7.ownBlock = some (W16.heap.size + 1 + 1) by simpa [Value.ownBlock] using hblx7)
      clear hblx7
      have ka7 : Keeps W16 W107 := Keeps.grown kb6 hgr7 (fun k e => by have := (o6_1.lt k e).1; omega)
      have sz7 : W16.heap.size + 1 + 1 ≤ W107.heap.size := by have := hgr7.size; simpa using this
      have hlt7 : ∀ k, v7.ownBlock = some k → k < W107.heap.size := fun k e => (hown7.lt k e).2
      have o7_2 := b6.grown hgr7 (.inr (by show some (W16.heap.size + 1) ≠ some (W16.heap.size); intro e; simp only [Option.some.injEq] at e; omega))
      obtain ⟨ae7, ce7, hv7⟩ := hown7.form
      simp only [List.nil_append, List.length_map, List.length_range] at hv7 hown7
      subst hv7
      refine hK.out _ _ (Touch.only ka7) (fun hHeld => ?_)
      clear hK K
      simp only [Act.put, List.setIfInBounds_toArray, List.set_cons_zero, List.set_cons_succ]
      refine wpAnyH_ready (rs := [41]) (by kernel_rfl) (by simp) ?_
      refine (AllReadyH.cons rfl (fun K hK => ?_) AllReadyH.nil)
      rw [if_pos (show Region.wanted _ _ = true from rfl)]
      refine wp_app_ints (.tmp 47) (.tmp 63) rfl W16.heap.size (.slice (some ⟨W16.heap.size + 1, 0, none⟩) 0 0) [] o7_2 rfl ⟨bw, off + (if wcp = p3 then 0 else p3), none⟩ (p4 - p3) _ (by show Value.slice (if wcp = p3 then some ⟨bw, off, none⟩ else some ⟨bw, off + p3, none⟩) _ _ = _; rw [slice_ad]) _ (rd_sub (hrow.out.keep (Keeps.trans KW16 ka7)) p3 (p4 - p3) (by omega) hcap) (by simp; omega) (by have := ka7.size; first | omega | (simp at this ⊢ <;> omega)) ?_
      intro v8 W108 hown8 hgr8 hblx8
      have hbl8 := Lib.hid (show v8.ownBlock = some (W16.heap.size + 1) ∨ v8.ownBlock = some (W107.heap.size) by simpa [Value.ownBlock] using hblx8)
      clear hblx8
      have ka8 : Keeps W16 W108 := Keeps.grown ka7 hgr8 (fun k e => by have := (o7_2.lt k e).1; omega)
      have sz8 : W107.heap.size ≤ W108.heap.size := by have := hgr8.size; simpa using this
      have hlt8 : ∀ k, v8.ownBlock = some k → k < W108.heap.size := fun k e => (hown8.lt k e).2
      have o8_1 := hown7.grown hgr8 (.inr (fun e => by have e2 : _ = some (W16.heap.size + 1) := e; have q := hlt7 _ e2; rcases hbl7.out with h1 | h1 <;> rw [h1] at e2 <;> simp only [Option.some.injEq] at e2 <;> omega))
      obtain ⟨ae8, ce8, hv8⟩ := hown8.form
      simp only [List.nil_append, List.length_map, List.length_range] at hv8 hown8
      subst hv8
      refine hK.out _ _ (Touch.only ka8) (fun hHeld => ?_)
      clear hK K
      simp only [Act.put, List.setIfInBounds_toArray, List.set_cons_zero, List.set_cons_succ]
      refine' wpAnyH_take (i := 42) ?hi42_3 ?hs42_3 ?hf42_3 ?hr42_3 ?hQ42_3 ?hy42_3 (by assumption) ?rest42_3
      case hi42_3 => simp only [List.getElem?_toArray, List.getElem?_cons_succ, List.getElem?_cons_zero] <;> rfl
      case hs42_3 => kernel_rfl
      case hf42_3 => kernel_rfl
      case hr42_3 => kernel_rfl
      case hQ42_3 => exact fun _ _ _ h => h
      case hy42_3 => exact Or.inl ⟨by rfl, fun w hSw => by go_simp <;> (try with_reducible rfl)⟩
      simp only [Act.put, List.setIfInBounds_toArray, List.set_cons_zero, List.set_cons_succ]
      refine wpAnyH_ready (rs := [43]) (by kernel_rfl) (by simp) ?_
      refine (AllReadyH.cons rfl (fun K hK => ?_) AllReadyH.nil)
      rw [if_pos (show Region.wanted _ _ = true from rfl)]
      refine wp_store_bl 135 (.tmp 4) (.tmp 65) rfl (BL.keep BW16_R ka8) rfl [.int .i64 c, .int .i64 ag, .int .i64 fw, .bool mk, .bool fi, .bool dn, .int .i64 (W p1), .slice ae7 (p3 - p2) ce7, .slice ae8 (p4 - p3) ce8] rfl sz_robj rfl rfl ?_
      intro X BX kX
      refine hK.out _ _ ((Touch.only ka8).trans_ kX) (fun hHeld => ?_)
      clear hK K
      simp only [Act.put, List.setIfInBounds_toArray, List.set_cons_zero, List.set_cons_succ]
      refine wpAnyH_done (by kernel_rfl) ?_ _
      refine NoPanic.normal ?_
      have s0 := BX.c 0 (.int .i64 c) rfl
      have s1 := BX.c 1 (.int .i64 ag) rfl
      have s2 := BX.c 2 (.int .i64 fw) rfl
      have s3 := BX.c 3 (.bool mk) rfl
      have s4 := BX.c 4 (.bool fi) rfl
      have s5 := BX.c 5 (.bool dn) rfl
      have s6 := BX.c 6 (.int .i64 (W p1)) rfl
      have s7 := BX.c 7 (.slice ae7 (p3 - p2) ce7) rfl
      have s8 := BX.c 8 (.slice ae8 (p4 - p3) ce8) rfl
      have zl := ka8.size
      have OX1 := (o8_1.touch kX (fun k e h => by have := (o8_1.lt k e).1; omega)).mono (show w.heap.size ≤ W16.heap.size by omega)
      have OX2 := (hown8.touch kX (fun k e h => by have := (hown8.lt k e).1; omega)).mono (show w.heap.size ≤ W16.heap.size by omega)
      rw [HE1.out] at OX1
      rw [HE2.out] at OX2
      have OH1 := Lib.hid OX1
      have OH2 := Lib.hid OX2
      clear OX1 OX2 b1 b6 o6_1 hown7 o7_2 hown8 o8_1
      go_wp2_with fail
      all_goals refine bodyPost_ret (v := .agg #[.int .i64 c, .int .i64 ag, .int .i64 fw, .bool mk, .bool fi, .bool dn, .int .i64 (W p1), .slice ae7 (p3 - p2) ce7, .slice ae8 (p4 - p3) ce8]) (by simp [results, Tryz.results65, go_sem, s0, s1, s2, s3, s4, s5, s6, s7, s8]) rfl ⟨_, _, by rw [HW1.out, HP1.out], OH1.out, OH2.out, Touch.new (Keeps.trans KW16 ka8) kX (by omega)⟩
  · go_simp
    have kb10 : Keeps W16 (W16.drew.alloc (.cells #[] 3)) := Touch.alloc kk0 _
    have b10 : OwnInts (W16.drew.alloc (.cells #[] 3)) W16.heap.size (.slice (some ⟨W16.heap.size, 0, none⟩) 0 0) [] := own_empty _ _ _ (by simp) (by have := kk0.size; first | omega | (simp at this; omega))
    obtain ⟨B10, hB10⟩ : ∃ b : Nat, b = W16.heap.size := ⟨_, rfl⟩
    refine hK.out _ _ (Touch.only kb10) (fun hHeld => ?_)
    clear hK K
    refine wpAnyH_ready (rs := [10]) (by kernel_rfl) (by simp) ?_
    refine (AllReadyH.cons rfl (fun K hK => ?_) AllReadyH.nil)
    go_simp
    have kb11 : Keeps W16 ((W16.drew.alloc (.cells #[] 3)).alloc (.cells #[] 3)) := Touch.alloc kb10 _
    have b11 : OwnInts ((W16.drew.alloc (.cells #[] 3)).alloc (.cells #[] 3)) W16.heap.size (.slice (some ⟨W16.heap.size + 1, 0, none⟩) 0 0) [] := own_empty _ _ _ (by simp) (by have := kb10.size; first | omega | (simp at this; omega))
    obtain ⟨B11, hB11⟩ : ∃ b : Nat, b = W16.heap.size + 1 := ⟨_, rfl⟩
    have o11_2 := b10.alloc (.cells #[] 3)
    refine hK.out _ _ (Touch.only kb11) (fun hHeld => ?_)
    clear hK K
    refine wpAnyH_ready (rs := [23]) (by kernel_rfl) (by simp) ?_
    refine (AllReadyH.cons rfl (fun K hK => ?_) AllReadyH.nil)
    rw [if_pos (show Region.wanted _ _ = true from rfl)]
    refine wp_app_ints (.tmp 33) (.tmp 45) rfl W16.heap.size (.slice (some ⟨W16.heap.size + 1, 0, none⟩) 0 0) [] b11 rfl ⟨bw, off + (if wcp = p2 then 0 else p2), none⟩ (p3 - p2) _ (by show Value.slice (if wcp = p2 then some ⟨bw, off, none⟩ else some ⟨bw, off + p2, none⟩) _ _ = _; rw [slice_ad]) _ (rd_sub (hrow.out.keep (Keeps.trans KW16 kb11)) p2 (p3 - p2) (by omega) hcap) (by simp; omega) (by have := kb11.size; first | omega | (simp at this ⊢ <;> omega)) ?_
    intro v12 W112 hown12 hgr12 hblx12
    have hbl12 := Lib.hid (show v12.ownBlock = some (W16.heap.size + 1) ∨ v12.ownBlock = some (W16.heap.size + 1 + 1) by simpa [Value.ownBlock] using hblx12)
    clear hblx12
    have ka12 : Keeps W16 W112 := Keeps.grown kb11 hgr12 (fun k e => by have := (b11.lt k e).1; omega)
    have sz12 : W16.heap.size + 1 + 1 ≤ W112.heap.size := by have := hgr12.size; simpa using this
    have hlt12 : ∀ k, v12.ownBlock = some k → k < W112.heap.size := fun k e => (hown12.lt k e).2
    have o12_2 := o11_2.grown hgr12 (.inr (by show some (W16.heap.size) ≠ some (W16.heap.size + 1); intro e; simp only [Option.some.injEq] at e; omega))
    obtain ⟨ae12, ce12, hv12⟩ := hown12.form
    simp only [List.nil_append, List.length_map, List.length_range] at hv12 hown12
    subst hv12
    refine hK.out _ _ (Touch.only ka12) (fun hHeld => ?_)
    clear hK K
    simp only [Act.put, List.setIfInBounds_toArray, List.set_cons_zero, List.set_cons_succ]
    refine wpAnyH_ready (rs := [41]) (by kernel_rfl) (by simp) ?_
    refine (AllReadyH.cons rfl (fun K hK => ?_) AllReadyH.nil)
    rw [if_pos (show Region.wanted _ _ = true from rfl)]
    refine wp_app_ints (.tmp 47) (.tmp 63) rfl W16.heap.size (.slice (some ⟨W16.heap.size, 0, none⟩) 0 0) [] o12_2 rfl ⟨bw, off + (if wcp = p3 then 0 else p3), none⟩ (p4 - p3) _ (by show Value.slice (if wcp = p3 then some ⟨bw, off, none⟩ else some ⟨bw, off + p3, none⟩) _ _ = _; rw [slice_ad]) _ (rd_sub (hrow.out.keep (Keeps.trans KW16 ka12)) p3 (p4 - p3) (by omega) hcap) (by simp; omega) (by have := ka12.size; first | omega | (simp at this ⊢ <;> omega)) ?_
    intro v13 W113 hown13 hgr13 hblx13
    have hbl13 := Lib.hid (show v13.ownBlock = some (W16.heap.size) ∨ v13.ownBlock = some (W112.heap.size) by simpa [Value.ownBlock] using hblx13)
    clear hblx13
    have ka13 : Keeps W16 W113 := Keeps.grown ka12 hgr13 (fun k e => by have := (o12_2.lt k e).1; omega)
    have sz13 : W112.heap.size ≤ W113.heap.size := by have := hgr13.size; simpa using this
    have hlt13 : ∀ k, v13.ownBlock = some k → k < W113.heap.size := fun k e => (hown13.lt k e).2
    have o13_1 := hown12.grown hgr13 (.inr (fun e => by have e2 : _ = some (W16.heap.size) := e; have q := hlt12 _ e2; rcases hbl12.out with h1 | h1 <;> rw [h1] at e2 <;> simp only [Option.some.injEq] at e2 <;> omega))
    obtain ⟨ae13, ce13, hv13⟩ := hown13.form
    simp only [List.nil_append, List.length_map, List.length_range] at hv13 hown13
    subst hv13
    refine hK.out _ _ (Touch.only ka13) (fun hHeld => ?_)
    clear hK K
    simp only [Act.put, List.setIfInBounds_toArray, List.set_cons_zero, List.set_cons_succ]
    refine' wpAnyH_take (i := 42) ?hi42_4 ?hs42_4 ?hf42_4 ?hr42_4 ?hQ42_4 ?hy42_4 (by assumption) ?rest42_4
    case hi42_4 => simp only [List.getElem?_toArray, List.getElem?_cons_succ, List.getElem?_cons_zero] <;> rfl
    case hs42_4 => kernel_rfl
    case hf42_4 => kernel_rfl
    case hr42_4 => kernel_rfl
    case hQ42_4 => exact fun _ _ _ h => h
    case hy42_4 => exact Or.inl ⟨by rfl, fun w hSw => by go_simp <;> (try with_reducible rfl)⟩
    simp only [Act.put, List.setIfInBounds_toArray, List.set_cons_zero, List.set_cons_succ]
    refine wpAnyH_ready (rs := [43]) (by kernel_rfl) (by simp) ?_
    refine (AllReadyH.cons rfl (fun K hK => ?_) AllReadyH.nil)
    rw [if_pos (show Region.wanted _ _ = true from rfl)]
    refine wp_store_bl 135 (.tmp 4) (.tmp 65) rfl (BL.keep BW16_R ka13) rfl [.int .i64 c, .int .i64 ag, .int .i64 fw, .bool mk, .bool fi, .bool dn, .int .i64 (W p1), .slice ae12 (p3 - p2) ce12, .slice ae13 (p4 - p3) ce13] rfl sz_robj rfl rfl ?_
    intro X BX kX
    refine hK.out _ _ ((Touch.only ka13).trans_ kX) (fun hHeld => ?_)
    clear hK K
    simp only [Act.put, List.setIfInBounds_toArray, List.set_cons_zero, List.set_cons_succ]
    refine wpAnyH_done (by kernel_rfl) ?_ _
    refine NoPanic.normal ?_
    have s0 := BX.c 0 (.int .i64 c) rfl
    have s1 := BX.c 1 (.int .i64 ag) rfl
    have s2 := BX.c 2 (.int .i64 fw) rfl
    have s3 := BX.c 3 (.bool mk) rfl
    have s4 := BX.c 4 (.bool fi) rfl
    have s5 := BX.c 5 (.bool dn) rfl
    have s6 := BX.c 6 (.int .i64 (W p1)) rfl
    have s7 := BX.c 7 (.slice ae12 (p3 - p2) ce12) rfl
    have s8 := BX.c 8 (.slice ae13 (p4 - p3) ce13) rfl
    have zl := ka13.size
    have OX1 := (o13_1.touch kX (fun k e h => by have := (o13_1.lt k e).1; omega)).mono (show w.heap.size ≤ W16.heap.size by omega)
    have OX2 := (hown13.touch kX (fun k e h => by have := (hown13.lt k e).1; omega)).mono (show w.heap.size ≤ W16.heap.size by omega)
    rw [HE1.out] at OX1
    rw [HE2.out] at OX2
    have OH1 := Lib.hid OX1
    have OH2 := Lib.hid OX2
    clear OX1 OX2 b10 b11 o11_2 hown12 o12_2 hown13 o13_1
    go_wp2_with fail
    all_goals refine bodyPost_ret (v := .agg #[.int .i64 c, .int .i64 ag, .int .i64 fw, .bool mk, .bool fi, .bool dn, .int .i64 (W p1), .slice ae12 (p3 - p2) ce12, .slice ae13 (p4 - p3) ce13]) (by simp [results, Tryz.results65, go_sem, s0, s1, s2, s3, s4, s5, s6, s7, s8]) rfl ⟨_, _, by rw [HW1.out, HP1.out], OH1.out, OH2.out, Touch.new (Keeps.trans KW16 ka13) kX (by omega)⟩

end Go.Proofs.YtkjgfblkbjlohaaGreat
