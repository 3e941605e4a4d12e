/- Layer 6, the document's: what stands at an address where something stands. -/
import Derived.Test.YtkjgfblkbjlohaaGreatG20
set_option linter.all false

namespace Go.Proofs.YtkjgfblkbjlohaaGreat
open Go.RowKit

/-- The document's store: its words lie behind the pointer pa, its classes are a list. -/
structure RSt (w : World) (pa n : Nat) (W : Nat → Int) (wad : Option Addr) (wcp : Nat) (A : Option Addr) (m : Nat) (C : Nat → Cl) : Prop where
  ptr : w.cell? ⟨pa, 0, none⟩ = some (.slice wad n wcp)
  row : Rd w wad n (intF .i64 W)
  cls : Rd w A (m * 4) (clF C)
  le : m < 64
  ok : ∀ j, j < m → (C j).ok
  sz : n ≤ 4096
  cap : n ≤ wcp
theorem RSt.keep {w w' : World} {pa n : Nat} {W : Nat → Int} {wad : Option Addr} {wcp : Nat} {A : Option Addr} {m : Nat} {C : Nat → Cl} (h : RSt w pa n W wad wcp A m C) (k : Keeps w w') : RSt w' pa n W wad wcp A m C :=
  ⟨by rw [← h.ptr]; exact World.cell?_of_block (k.block _ (block_lt_of_cell h.ptr) (fun h => h)), h.row.keep k, h.cls.keep k, h.le, h.ok, h.sz, h.cap⟩
def rstV (pa : Nat) (A : Option Addr) (m cap : Nat) : Value := .agg #[.pointer (some ⟨pa, 0, none⟩), .slice A m cap]
theorem sz_rst : (Tryz.prog.info? 42).map (·.size) = some 2 := by kernel_rfl
theorem zero_rhd (w : World) : (zeroValue 103).run Tryz.prog w = .ok (.agg #[.int .i64 0, .int .i64 0, .int .i64 0, .bool false, .bool false, .bool false]) w := by kernel_rfl
theorem rthere_yes (pa n wcp : Nat) (wad : Option Addr) (a k : Int) (w : World) (h : w.cell? ⟨pa, 0, none⟩ = some (.slice wad n wcp)) (h0 : 0 ≤ k) (h1 : 0 ≤ a) (h2 : a ≤ n) (h3 : k ≤ n - a) (hn : n ≤ 4096) :
    Calls Tryz.prog 78 #[.pointer (some ⟨pa, 0, none⟩), .int .i64 a, .int .i64 k] w fun e w' => e = .returned (.bool true) ∧ w = w' := by
  have g1 : IntKind.i64.wrap ((n : Int) - a) = n - a := IntWalk.i64_in _ ⟨by omega, by omega⟩
  go_enter Tryz.func78, Tryz.ntmps78
  go_wp2_with fail
  go_ret
  exact ⟨rfl, rfl⟩

set_option maxHeartbeats 1000000 in
theorem rsize_gap1 (pa n : Nat) (W : Nat → Int) (wad : Option Addr) (wcp : Nat) (A : Option Addr) (m cap : Nat) (C : Nat → Cl) (w : World) (h : RSt w pa n W wad wcp A m C) (p q : Nat) (hq : (p : Int) + 1 = q) (hp : 1 ≤ p) (hpn : p < n) (hok : (rawH (W p)).ok) (hc0 : (rawH (W p)).cls = 0) (hm0 : (rawH (W p)).mark = true) :
    Calls Tryz.prog 41 #[rstV pa A m cap, .int .i64 p] w fun e w' => e = .returned (.tuple #[.int .i64 1, .bool false, .int .i64 0]) ∧ Keeps w w' := by
  have HSt := Lib.hid (show ∀ w', Keeps w w' → RSt w' pa n W wad wcp A m C from fun w' k => h.keep k)
  have HO := Lib.hid (fun w' => rof_ok (W p) w' hok)
  have HTh := Lib.hid (fun a k w' hh h0 h1 h2 h3 => rthere_yes pa n wcp wad a k w' hh h0 h1 h2 h3 h.sz)
  have HSh := Lib.hid (show ∀ w', Keeps w w' → ∀ a len, Calls Tryz.prog 56 #[.slice A m cap, .int .i64 a, .int .i64 len] w' fun e w2 => e = .returned (.tuple #[.int .i64 (shR C m a len), .int .i64 (shD C m a len), .int .i64 (shE C m a len)]) ∧ Keeps w' w2 from fun w' k a len => rshape_any A m cap C w' (h.cls.keep k) h.ok (by have := h.le; omega) a len)
  have hsz := h.sz
  have g1 : IntKind.i64.wrap ((p : Int) + 1) = q := by rw [IntWalk.i64_in _ ⟨by omega, by omega⟩]; exact hq
  have n1 : ¬ (p : Int) < 1 := by omega
  obtain ⟨bw, off, rfl, d0⟩ := h.row.one hpn
  have HP0 := Lib.hid d0
  have hptr := h.ptr
  have hpl := block_lt_of_cell hptr
  have hbl := block_lt_of_cell d0
  clear h
  have d1 : w.cell? ⟨bw, off + p, none⟩ = some (.int .i64 (W p)) := d0
  clear d0 HP0 hok
  have K0 := Touch.refl (fun _ => False) w
  generalize hH : rawH (W p) = H at *
  have HH := Lib.hid hH
  clear hH
  obtain ⟨c, ag, fw, mk, fi, dn⟩ := H
  unfold rstV hdV at *
  dsimp only at *
  have hc : c = 0 := by have := hc0; simpa using this
  subst hc
  have hm : mk = true := hm0
  subst hm
  clear hc0 hm0
  go_enter Tryz.func41, Tryz.ntmps41
  go_wp2_with fail
  refine named (fun W1 hW1 => ?_)
  have KW1 : Keeps w W1 := by rw [hW1]; exact (K0.alloc _)
  have BW1_S : BL W1 (w.heap.size) 42 [.pointer (some ⟨pa, 0, none⟩), .slice A m cap] := by rw [hW1]; exact (BL.new1 _ _ _ [.pointer (some ⟨pa, 0, none⟩), .slice A m cap] _ (by simp) rfl)
  have zW1 : w.heap.size + 1 ≤ W1.heap.size := by rw [hW1]; simp
  clear K0 hW1
  have l2 := BW1_S.lt
  have c3 : W1.cell? ⟨w.heap.size, 0, none⟩ = some (.pointer (some ⟨pa, 0, none⟩)) := BW1_S.c 0 _ rfl
  have c4 : W1.cell? ⟨w.heap.size, 1, none⟩ = some (.slice A m cap) := BW1_S.c 1 _ rfl
  have hptrW1 := cell_keep hptr KW1
  have d1W1 := cell_keep d1 KW1
  have plW1 : pa < W1.heap.size := block_lt_of_cell hptrW1
  have blW1 : bw < W1.heap.size := block_lt_of_cell d1W1
  refine Calls.mono (HO.out _) ?_
  rintro e w5 ⟨rfl, kw5⟩
  have Kw5 := Keeps.trans KW1 kw5
  have Bw5_S := BL.keep BW1_S kw5
  have zw5 := kw5.size
  clear l2 c3 c4 hptrW1 d1W1 plW1 blW1 BW1_S KW1 kw5
  have l6 := Bw5_S.lt
  have c7 : w5.cell? ⟨w.heap.size, 0, none⟩ = some (.pointer (some ⟨pa, 0, none⟩)) := Bw5_S.c 0 _ rfl
  have c8 : w5.cell? ⟨w.heap.size, 1, none⟩ = some (.slice A m cap) := Bw5_S.c 1 _ rfl
  have hptrw5 := cell_keep hptr Kw5
  have d1w5 := cell_keep d1 Kw5
  have plw5 : pa < w5.heap.size := block_lt_of_cell hptrw5
  have blw5 : bw < w5.heap.size := block_lt_of_cell d1w5
  go_wp2_with fail
  go_returns
  exact ⟨rfl, (Kw5.alloc _)⟩

set_option maxHeartbeats 1000000 in
theorem rsize_gap (pa n : Nat) (W : Nat → Int) (wad : Option Addr) (wcp : Nat) (A : Option Addr) (m cap : Nat) (C : Nat → Cl) (w : World) (h : RSt w pa n W wad wcp A m C) (p q : Nat) (hq : (p : Int) + 1 = q) (hp : 1 ≤ p) (hpn : p < n) (hok : (rawH (W p)).ok) (hc0 : (rawH (W p)).cls = 0) (hm0 : (rawH (W p)).mark = false) (hqn : q < n) (h2 : 2 ≤ W q) (hfit : W q ≤ n - p) :
    Calls Tryz.prog 41 #[rstV pa A m cap, .int .i64 p] w fun e w' => e = .returned (.tuple #[.int .i64 (W q), .bool false, .int .i64 0]) ∧ Keeps w w' := by
  have HSt := Lib.hid (show ∀ w', Keeps w w' → RSt w' pa n W wad wcp A m C from fun w' k => h.keep k)
  have HO := Lib.hid (fun w' => rof_ok (W p) w' hok)
  have HTh := Lib.hid (fun a k w' hh h0 h1 h2 h3 => rthere_yes pa n wcp wad a k w' hh h0 h1 h2 h3 h.sz)
  have HSh := Lib.hid (show ∀ w', Keeps w w' → ∀ a len, Calls Tryz.prog 56 #[.slice A m cap, .int .i64 a, .int .i64 len] w' fun e w2 => e = .returned (.tuple #[.int .i64 (shR C m a len), .int .i64 (shD C m a len), .int .i64 (shE C m a len)]) ∧ Keeps w' w2 from fun w' k a len => rshape_any A m cap C w' (h.cls.keep k) h.ok (by have := h.le; omega) a len)
  have hsz := h.sz
  have g1 : IntKind.i64.wrap ((p : Int) + 1) = q := by rw [IntWalk.i64_in _ ⟨by omega, by omega⟩]; exact hq
  have n1 : ¬ (p : Int) < 1 := by omega
  obtain ⟨bw, off, rfl, d0⟩ := h.row.one hpn
  have HP0 := Lib.hid d0
  have hptr := h.ptr
  have hpl := block_lt_of_cell hptr
  have hbl := block_lt_of_cell d0
  clear h
  have d1 : w.cell? ⟨bw, off + p, none⟩ = some (.int .i64 (W p)) := d0
  clear d0 HP0 hok
  have K0 := Touch.refl (fun _ => False) w
  generalize hH : rawH (W p) = H at *
  have HH := Lib.hid hH
  clear hH
  obtain ⟨c, ag, fw, mk, fi, dn⟩ := H
  unfold rstV hdV at *
  dsimp only at *
  have hc : c = 0 := by have := hc0; simpa using this
  subst hc
  have hm : mk = false := hm0
  subst hm
  clear hc0 hm0
  have n2 : ¬ (n : Int) ≤ (q : Int) := by omega
  obtain ⟨bw', off', he, d2⟩ := (HSt.out w K0).row.one hqn
  simp only [Option.some.injEq, Addr.mk.injEq, and_true] at he
  obtain ⟨rfl, rfl⟩ := he
  have d3 : w.cell? ⟨bw, off + q, none⟩ = some (.int .i64 (W q)) := d2
  have n3 : ¬ W q < 2 := by omega
  clear d2
  go_enter Tryz.func41, Tryz.ntmps41
  go_wp2_with fail
  refine named (fun W1 hW1 => ?_)
  have KW1 : Keeps w W1 := by rw [hW1]; exact (K0.alloc _)
  have BW1_S : BL W1 (w.heap.size) 42 [.pointer (some ⟨pa, 0, none⟩), .slice A m cap] := by rw [hW1]; exact (BL.new1 _ _ _ [.pointer (some ⟨pa, 0, none⟩), .slice A m cap] _ (by simp) rfl)
  have zW1 : w.heap.size + 1 ≤ W1.heap.size := by rw [hW1]; simp
  clear K0 hW1
  have l2 := BW1_S.lt
  have c3 : W1.cell? ⟨w.heap.size, 0, none⟩ = some (.pointer (some ⟨pa, 0, none⟩)) := BW1_S.c 0 _ rfl
  have c4 : W1.cell? ⟨w.heap.size, 1, none⟩ = some (.slice A m cap) := BW1_S.c 1 _ rfl
  have hptrW1 := cell_keep hptr KW1
  have d1W1 := cell_keep d1 KW1
  have plW1 : pa < W1.heap.size := block_lt_of_cell hptrW1
  have blW1 : bw < W1.heap.size := block_lt_of_cell d1W1
  refine Calls.mono (HO.out _) ?_
  rintro e w5 ⟨rfl, kw5⟩
  have Kw5 := Keeps.trans KW1 kw5
  have Bw5_S := BL.keep BW1_S kw5
  have zw5 := kw5.size
  clear l2 c3 c4 hptrW1 d1W1 plW1 blW1 BW1_S KW1 kw5
  have l6 := Bw5_S.lt
  have c7 : w5.cell? ⟨w.heap.size, 0, none⟩ = some (.pointer (some ⟨pa, 0, none⟩)) := Bw5_S.c 0 _ rfl
  have c8 : w5.cell? ⟨w.heap.size, 1, none⟩ = some (.slice A m cap) := Bw5_S.c 1 _ rfl
  have hptrw5 := cell_keep hptr Kw5
  have d1w5 := cell_keep d1 Kw5
  have plw5 : pa < w5.heap.size := block_lt_of_cell hptrw5
  have blw5 : bw < w5.heap.size := block_lt_of_cell d1w5
  have d3x := cell_keep d3 Kw5
  go_wp2_with fail
  refine named (fun W9 hW9 => ?_)
  have KW9 : Keeps w W9 := by rw [hW9]; exact (Kw5.alloc _)
  have BW9_S : BL W9 (w.heap.size) 42 [.pointer (some ⟨pa, 0, none⟩), .slice A m cap] := by rw [hW9]; exact (BL.alloc Bw5_S _)
  have BW9_H : BL W9 (w5.heap.size) 103 [.int .i64 0, .int .i64 ag, .int .i64 fw, .bool false, .bool fi, .bool dn] := by rw [hW9]; exact (BL.new1 _ _ _ [.int .i64 0, .int .i64 ag, .int .i64 fw, .bool false, .bool fi, .bool dn] _ (by simp) rfl)
  have zW9 : w5.heap.size + 1 ≤ W9.heap.size := by rw [hW9]; simp
  clear l6 c7 c8 hptrw5 d1w5 plw5 blw5 d3x Bw5_S Kw5 hW9
  have l10 := BW9_S.lt
  have l11 := BW9_H.lt
  have c12 : W9.cell? ⟨w.heap.size, 0, none⟩ = some (.pointer (some ⟨pa, 0, none⟩)) := BW9_S.c 0 _ rfl
  have c13 : W9.cell? ⟨w.heap.size, 1, none⟩ = some (.slice A m cap) := BW9_S.c 1 _ rfl
  have c14 : W9.cell? ⟨w5.heap.size, 0, none⟩ = some (.int .i64 0) := BW9_H.c 0 _ rfl
  have c15 : W9.cell? ⟨w5.heap.size, 3, none⟩ = some (.bool false) := BW9_H.c 3 _ rfl
  have hptrW9 := cell_keep hptr KW9
  have d1W9 := cell_keep d1 KW9
  have plW9 : pa < W9.heap.size := block_lt_of_cell hptrW9
  have blW9 : bw < W9.heap.size := block_lt_of_cell d1W9
  refine Calls.mono (HTh.out _ _ _ hptrW9 (by omega) (by omega) (by omega) (by omega)) ?_
  rintro e wz ⟨rfl, rfl⟩
  go_wp2_with fail
  go_returns
  exact ⟨rfl, KW9⟩

set_option maxHeartbeats 1000000 in
theorem rsize_obj (pa n : Nat) (W : Nat → Int) (wad : Option Addr) (wcp : Nat) (A : Option Addr) (m cap : Nat) (C : Nat → Cl) (w : World) (h : RSt w pa n W wad wcp A m C) (p q : Nat) (hq : (p : Int) + 1 = q) (hp : 1 ≤ p) (hpn : p < n) (hok : (rawH (W p)).ok) (hc0 : (rawH (W p)).cls ≠ 0) (hqn : q < n) (hE : shE C m (rawH (W p)).cls (W q) = 0) (r0 : 0 ≤ shR C m (rawH (W p)).cls (W q)) (r1 : shR C m (rawH (W p)).cls (W q) ≤ 60) (s0 : 0 ≤ shD C m (rawH (W p)).cls (W q)) (s1 : shD C m (rawH (W p)).cls (W q) ≤ 30) (hfit : 2 + shR C m (rawH (W p)).cls (W q) + shD C m (rawH (W p)).cls (W q) ≤ n - p) :
    Calls Tryz.prog 41 #[rstV pa A m cap, .int .i64 p] w fun e w' => e = .returned (.tuple #[.int .i64 (2 + shR C m (rawH (W p)).cls (W q) + shD C m (rawH (W p)).cls (W q)), .bool true, .int .i64 0]) ∧ Keeps w w' := by
  have HSt := Lib.hid (show ∀ w', Keeps w w' → RSt w' pa n W wad wcp A m C from fun w' k => h.keep k)
  have HO := Lib.hid (fun w' => rof_ok (W p) w' hok)
  have HTh := Lib.hid (fun a k w' hh h0 h1 h2 h3 => rthere_yes pa n wcp wad a k w' hh h0 h1 h2 h3 h.sz)
  have HSh := Lib.hid (show ∀ w', Keeps w w' → ∀ a len, Calls Tryz.prog 56 #[.slice A m cap, .int .i64 a, .int .i64 len] w' fun e w2 => e = .returned (.tuple #[.int .i64 (shR C m a len), .int .i64 (shD C m a len), .int .i64 (shE C m a len)]) ∧ Keeps w' w2 from fun w' k a len => rshape_any A m cap C w' (h.cls.keep k) h.ok (by have := h.le; omega) a len)
  have hsz := h.sz
  have g1 : IntKind.i64.wrap ((p : Int) + 1) = q := by rw [IntWalk.i64_in _ ⟨by omega, by omega⟩]; exact hq
  have n1 : ¬ (p : Int) < 1 := by omega
  obtain ⟨bw, off, rfl, d0⟩ := h.row.one hpn
  have HP0 := Lib.hid d0
  have hptr := h.ptr
  have hpl := block_lt_of_cell hptr
  have hbl := block_lt_of_cell d0
  clear h
  have d1 : w.cell? ⟨bw, off + p, none⟩ = some (.int .i64 (W p)) := d0
  clear d0 HP0 hok
  have K0 := Touch.refl (fun _ => False) w
  generalize hH : rawH (W p) = H at *
  have HH := Lib.hid hH
  clear hH
  obtain ⟨c, ag, fw, mk, fi, dn⟩ := H
  unfold rstV hdV at *
  dsimp only at *
  have n2 : ¬ (n : Int) ≤ (q : Int) := by omega
  obtain ⟨bw', off', he, d2⟩ := (HSt.out w K0).row.one hqn
  simp only [Option.some.injEq, Addr.mk.injEq, and_true] at he
  obtain ⟨rfl, rfl⟩ := he
  have d3 : w.cell? ⟨bw, off + q, none⟩ = some (.int .i64 (W q)) := d2
  have g2 : IntKind.i64.wrap (2 + shR C m c (W q)) = 2 + shR C m c (W q) := IntWalk.i64_in _ ⟨by omega, by omega⟩
  have g3 : IntKind.i64.wrap (2 + shR C m c (W q) + shD C m c (W q)) = 2 + shR C m c (W q) + shD C m c (W q) := IntWalk.i64_in _ ⟨by omega, by omega⟩
  have hcb : (c == 0) = false := by simpa using hc0
  have HS2 := Lib.hid (fun w' k => HSh.out w' k c (W q))
  rw [hE] at HS2
  clear d2 HSh hE hc0
  generalize shR C m c (W q) = r at *
  generalize shD C m c (W q) = d at *
  go_enter Tryz.func41, Tryz.ntmps41
  go_wp2_with fail
  refine named (fun W1 hW1 => ?_)
  have KW1 : Keeps w W1 := by rw [hW1]; exact (K0.alloc _)
  have BW1_S : BL W1 (w.heap.size) 42 [.pointer (some ⟨pa, 0, none⟩), .slice A m cap] := by rw [hW1]; exact (BL.new1 _ _ _ [.pointer (some ⟨pa, 0, none⟩), .slice A m cap] _ (by simp) rfl)
  have zW1 : w.heap.size + 1 ≤ W1.heap.size := by rw [hW1]; simp
  clear K0 hW1
  have l2 := BW1_S.lt
  have c3 : W1.cell? ⟨w.heap.size, 0, none⟩ = some (.pointer (some ⟨pa, 0, none⟩)) := BW1_S.c 0 _ rfl
  have c4 : W1.cell? ⟨w.heap.size, 1, none⟩ = some (.slice A m cap) := BW1_S.c 1 _ rfl
  have hptrW1 := cell_keep hptr KW1
  have d1W1 := cell_keep d1 KW1
  have plW1 : pa < W1.heap.size := block_lt_of_cell hptrW1
  have blW1 : bw < W1.heap.size := block_lt_of_cell d1W1
  refine Calls.mono (HO.out _) ?_
  rintro e w5 ⟨rfl, kw5⟩
  have Kw5 := Keeps.trans KW1 kw5
  have Bw5_S := BL.keep BW1_S kw5
  have zw5 := kw5.size
  clear l2 c3 c4 hptrW1 d1W1 plW1 blW1 BW1_S KW1 kw5
  have l6 := Bw5_S.lt
  have c7 : w5.cell? ⟨w.heap.size, 0, none⟩ = some (.pointer (some ⟨pa, 0, none⟩)) := Bw5_S.c 0 _ rfl
  have c8 : w5.cell? ⟨w.heap.size, 1, none⟩ = some (.slice A m cap) := Bw5_S.c 1 _ rfl
  have hptrw5 := cell_keep hptr Kw5
  have d1w5 := cell_keep d1 Kw5
  have plw5 : pa < w5.heap.size := block_lt_of_cell hptrw5
  have blw5 : bw < w5.heap.size := block_lt_of_cell d1w5
  have d3x := cell_keep d3 Kw5
  go_wp2_with fail
  refine named (fun W9 hW9 => ?_)
  have KW9 : Keeps w W9 := by rw [hW9]; exact (Kw5.alloc _)
  have BW9_S : BL W9 (w.heap.size) 42 [.pointer (some ⟨pa, 0, none⟩), .slice A m cap] := by rw [hW9]; exact (BL.alloc Bw5_S _)
  have BW9_H : BL W9 (w5.heap.size) 103 [.int .i64 c, .int .i64 ag, .int .i64 fw, .bool mk, .bool fi, .bool dn] := by rw [hW9]; exact (BL.new1 _ _ _ [.int .i64 c, .int .i64 ag, .int .i64 fw, .bool mk, .bool fi, .bool dn] _ (by simp) rfl)
  have zW9 : w5.heap.size + 1 ≤ W9.heap.size := by rw [hW9]; simp
  clear l6 c7 c8 hptrw5 d1w5 plw5 blw5 d3x Bw5_S Kw5 hW9
  have l10 := BW9_S.lt
  have l11 := BW9_H.lt
  have c12 : W9.cell? ⟨w.heap.size, 0, none⟩ = some (.pointer (some ⟨pa, 0, none⟩)) := BW9_S.c 0 _ rfl
  have c13 : W9.cell? ⟨w.heap.size, 1, none⟩ = some (.slice A m cap) := BW9_S.c 1 _ rfl
  have c14 : W9.cell? ⟨w5.heap.size, 0, none⟩ = some (.int .i64 c) := BW9_H.c 0 _ rfl
  have c15 : W9.cell? ⟨w5.heap.size, 3, none⟩ = some (.bool mk) := BW9_H.c 3 _ rfl
  have hptrW9 := cell_keep hptr KW9
  have d1W9 := cell_keep d1 KW9
  have plW9 : pa < W9.heap.size := block_lt_of_cell hptrW9
  have blW9 : bw < W9.heap.size := block_lt_of_cell d1W9
  refine Calls.mono (HS2.out _ KW9) ?_
  rintro e w16 ⟨rfl, kw16⟩
  have Kw16 := Keeps.trans KW9 kw16
  have Bw16_S := BL.keep BW9_S kw16
  have Bw16_H := BL.keep BW9_H kw16
  have zw16 := kw16.size
  clear l10 l11 c12 c13 c14 c15 hptrW9 d1W9 plW9 blW9 BW9_S BW9_H KW9 kw16
  have l17 := Bw16_S.lt
  have l18 := Bw16_H.lt
  have c19 : w16.cell? ⟨w.heap.size, 0, none⟩ = some (.pointer (some ⟨pa, 0, none⟩)) := Bw16_S.c 0 _ rfl
  have c20 : w16.cell? ⟨w.heap.size, 1, none⟩ = some (.slice A m cap) := Bw16_S.c 1 _ rfl
  have hptrw16 := cell_keep hptr Kw16
  have d1w16 := cell_keep d1 Kw16
  have plw16 : pa < w16.heap.size := block_lt_of_cell hptrw16
  have blw16 : bw < w16.heap.size := block_lt_of_cell d1w16
  go_wp2_with fail
  refine Calls.mono (HTh.out _ _ _ hptrw16 (by omega) (by omega) (by omega) (by omega)) ?_
  rintro e wz ⟨rfl, rfl⟩
  go_wp2_with fail
  go_returns
  exact ⟨rfl, Kw16⟩


end Go.Proofs.YtkjgfblkbjlohaaGreat
