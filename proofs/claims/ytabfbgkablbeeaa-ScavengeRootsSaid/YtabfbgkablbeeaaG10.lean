/- Layer 6, object: references and numbers. -/
import Derived.Test.YtabfbgkablbeeaaG09
set_option linter.all false

namespace Go.Proofs.Ytabfbgkablbeeaa
open Go.RowKit

/-- An error, and any number. -/
def ErrAt (x : Int) (w : World) (e : Ending) (w' : World) : Prop := (∃ y, e = .returned (.tuple #[.int .i64 y, .int .i64 x])) ∧ Keeps w w'

set_option maxHeartbeats 1000000 in
theorem slot_yes (P Q : Option Addr) (a fl : Int) (w : World) (p : Th × Int) (hat : ∀ w', Keeps w w' → Calls Try.prog 44 #[.agg #[.pointer P, .pointer Q], .int .i64 a] w' fun e w2 => e = .returned (.tuple #[thV p.1, .int .i64 p.2]) ∧ Keeps w' w2) (hx : p.2 = 0) (h0 : 0 ≤ fl) (h1 : fl < p.1.refs) (ha : 1 ≤ a ∧ a ≤ 5000) (hr : 0 ≤ p.1.refs ∧ p.1.refs ≤ 60) (hd : 0 ≤ p.1.data ∧ p.1.data ≤ 30) :
    Calls Try.prog 45 #[.agg #[.pointer P, .pointer Q], .int .i64 a, .int .i64 fl] w fun e w' => e = .returned (.tuple #[.int .i64 (a + 2 + fl), .int .i64 0]) ∧ Keeps w w' := by
  have HO := Lib.hid hat
  clear hat
  obtain ⟨⟨⟨c, ag, fw, mk, fi, dn⟩, r, d, k⟩, x⟩ := p
  unfold thV at *
  dsimp only at *
  subst hx
  obtain ⟨a1, a2⟩ := ha
  obtain ⟨r1, r2⟩ := hr
  obtain ⟨d1, d2⟩ := hd
  have g1 : IntKind.i64.wrap (a + 2) = a + 2 := IntWalk.i64_in _ ⟨by omega, by omega⟩
  have g2 : IntKind.i64.wrap (a + 2 + r) = a + 2 + r := IntWalk.i64_in _ ⟨by omega, by omega⟩
  have g3 : IntKind.i64.wrap (a + 2 + fl) = a + 2 + fl := IntWalk.i64_in _ ⟨by omega, by omega⟩
  have g4 : IntKind.i64.wrap (a + 2 + r + fl) = a + 2 + r + fl := IntWalk.i64_in _ ⟨by omega, by omega⟩
  go_enter Try.func45, Try.ntmps45
  go_wp2_with fail
  refine named (fun W1 hW1 => ?_)
  have KW1 : Keeps w W1 := by rw [hW1]; exact ((Touch.refl _ w).alloc _)
  have BW1_S : BL W1 (w.heap.size) 34 [.pointer P, .pointer Q] := by rw [hW1]; exact (BL.new1 _ _ _ [.pointer P, .pointer Q] _ (by simp) rfl)
  have zW1 : w.heap.size + 1 ≤ W1.heap.size := by rw [hW1]; simp
  clear hW1
  have l2 := BW1_S.lt
  refine Calls.mono (HO.out _ KW1) ?_
  rintro e w3 ⟨rfl, kw3⟩
  have Kw3 := Keeps.trans KW1 kw3
  have Bw3_S := BL.keep BW1_S kw3
  have zw3 := kw3.size
  clear l2 BW1_S KW1 kw3
  have l4 := Bw3_S.lt
  go_wp2_with fail
  go_returns
  exact ⟨rfl, (Kw3.alloc _)⟩

set_option maxHeartbeats 1000000 in
theorem slot_neg (P Q : Option Addr) (a fl : Int) (w : World) (p : Th × Int) (hat : ∀ w', Keeps w w' → Calls Try.prog 44 #[.agg #[.pointer P, .pointer Q], .int .i64 a] w' fun e w2 => e = .returned (.tuple #[thV p.1, .int .i64 p.2]) ∧ Keeps w' w2) (hx : p.2 = 0) (h0 : fl < 0) :
    Calls Try.prog 45 #[.agg #[.pointer P, .pointer Q], .int .i64 a, .int .i64 fl] w (ErrAt 1 w) := by
  have HO := Lib.hid hat
  clear hat
  obtain ⟨⟨⟨c, ag, fw, mk, fi, dn⟩, r, d, k⟩, x⟩ := p
  unfold thV at *
  dsimp only at *
  subst hx
  go_enter Try.func45, Try.ntmps45
  go_wp2_with fail
  refine named (fun W1 hW1 => ?_)
  have KW1 : Keeps w W1 := by rw [hW1]; exact ((Touch.refl _ w).alloc _)
  have BW1_S : BL W1 (w.heap.size) 34 [.pointer P, .pointer Q] := by rw [hW1]; exact (BL.new1 _ _ _ [.pointer P, .pointer Q] _ (by simp) rfl)
  have zW1 : w.heap.size + 1 ≤ W1.heap.size := by rw [hW1]; simp
  clear hW1
  have l2 := BW1_S.lt
  refine Calls.mono (HO.out _ KW1) ?_
  rintro e w3 ⟨rfl, kw3⟩
  have Kw3 := Keeps.trans KW1 kw3
  have Bw3_S := BL.keep BW1_S kw3
  have zw3 := kw3.size
  clear l2 BW1_S KW1 kw3
  have l4 := Bw3_S.lt
  go_wp2_with fail
  go_returns
  exact ⟨⟨_, rfl⟩, (Kw3.alloc _)⟩

set_option maxHeartbeats 1000000 in
theorem slot_far (P Q : Option Addr) (a fl : Int) (w : World) (p : Th × Int) (hat : ∀ w', Keeps w w' → Calls Try.prog 44 #[.agg #[.pointer P, .pointer Q], .int .i64 a] w' fun e w2 => e = .returned (.tuple #[thV p.1, .int .i64 p.2]) ∧ Keeps w' w2) (hx : p.2 = 0) (h0 : 0 ≤ fl) (h1 : p.1.refs ≤ fl) :
    Calls Try.prog 45 #[.agg #[.pointer P, .pointer Q], .int .i64 a, .int .i64 fl] w (ErrAt 1 w) := by
  have HO := Lib.hid hat
  clear hat
  obtain ⟨⟨⟨c, ag, fw, mk, fi, dn⟩, r, d, k⟩, x⟩ := p
  unfold thV at *
  dsimp only at *
  subst hx
  go_enter Try.func45, Try.ntmps45
  go_wp2_with fail
  refine named (fun W1 hW1 => ?_)
  have KW1 : Keeps w W1 := by rw [hW1]; exact ((Touch.refl _ w).alloc _)
  have BW1_S : BL W1 (w.heap.size) 34 [.pointer P, .pointer Q] := by rw [hW1]; exact (BL.new1 _ _ _ [.pointer P, .pointer Q] _ (by simp) rfl)
  have zW1 : w.heap.size + 1 ≤ W1.heap.size := by rw [hW1]; simp
  clear hW1
  have l2 := BW1_S.lt
  refine Calls.mono (HO.out _ KW1) ?_
  rintro e w3 ⟨rfl, kw3⟩
  have Kw3 := Keeps.trans KW1 kw3
  have Bw3_S := BL.keep BW1_S kw3
  have zw3 := kw3.size
  clear l2 BW1_S KW1 kw3
  have l4 := Bw3_S.lt
  go_wp2_with fail
  go_returns
  exact ⟨⟨_, rfl⟩, (Kw3.alloc _)⟩

set_option maxHeartbeats 1000000 in
theorem slot_err (P Q : Option Addr) (a fl : Int) (w : World) (p : Th × Int) (hat : ∀ w', Keeps w w' → Calls Try.prog 44 #[.agg #[.pointer P, .pointer Q], .int .i64 a] w' fun e w2 => e = .returned (.tuple #[thV p.1, .int .i64 p.2]) ∧ Keeps w' w2) (hx : p.2 ≠ 0) :
    Calls Try.prog 45 #[.agg #[.pointer P, .pointer Q], .int .i64 a, .int .i64 fl] w (ErrAt p.2 w) := by
  have HO := Lib.hid hat
  clear hat
  obtain ⟨⟨⟨c, ag, fw, mk, fi, dn⟩, r, d, k⟩, x⟩ := p
  unfold thV at *
  dsimp only at *
  have hxn : (x == 0) = false := by simpa using hx
  clear hx
  go_enter Try.func45, Try.ntmps45
  go_wp2_with fail
  refine named (fun W1 hW1 => ?_)
  have KW1 : Keeps w W1 := by rw [hW1]; exact ((Touch.refl _ w).alloc _)
  have BW1_S : BL W1 (w.heap.size) 34 [.pointer P, .pointer Q] := by rw [hW1]; exact (BL.new1 _ _ _ [.pointer P, .pointer Q] _ (by simp) rfl)
  have zW1 : w.heap.size + 1 ≤ W1.heap.size := by rw [hW1]; simp
  clear hW1
  have l2 := BW1_S.lt
  refine Calls.mono (HO.out _ KW1) ?_
  rintro e w3 ⟨rfl, kw3⟩
  have Kw3 := Keeps.trans KW1 kw3
  have Bw3_S := BL.keep BW1_S kw3
  have zw3 := kw3.size
  clear l2 BW1_S KW1 kw3
  have l4 := Bw3_S.lt
  go_wp2_with fail
  go_returns
  exact ⟨⟨_, rfl⟩, (Kw3.alloc _)⟩

set_option maxHeartbeats 1000000 in
theorem cell_yes (P Q : Option Addr) (a fl : Int) (w : World) (p : Th × Int) (hat : ∀ w', Keeps w w' → Calls Try.prog 44 #[.agg #[.pointer P, .pointer Q], .int .i64 a] w' fun e w2 => e = .returned (.tuple #[thV p.1, .int .i64 p.2]) ∧ Keeps w' w2) (hx : p.2 = 0) (h0 : 0 ≤ fl) (h1 : fl < p.1.data) (ha : 1 ≤ a ∧ a ≤ 5000) (hr : 0 ≤ p.1.refs ∧ p.1.refs ≤ 60) (hd : 0 ≤ p.1.data ∧ p.1.data ≤ 30) :
    Calls Try.prog 73 #[.agg #[.pointer P, .pointer Q], .int .i64 a, .int .i64 fl] w fun e w' => e = .returned (.tuple #[.int .i64 (a + 2 + p.1.refs + fl), .int .i64 0]) ∧ Keeps w w' := by
  have HO := Lib.hid hat
  clear hat
  obtain ⟨⟨⟨c, ag, fw, mk, fi, dn⟩, r, d, k⟩, x⟩ := p
  unfold thV at *
  dsimp only at *
  subst hx
  obtain ⟨a1, a2⟩ := ha
  obtain ⟨r1, r2⟩ := hr
  obtain ⟨d1, d2⟩ := hd
  have g1 : IntKind.i64.wrap (a + 2) = a + 2 := IntWalk.i64_in _ ⟨by omega, by omega⟩
  have g2 : IntKind.i64.wrap (a + 2 + r) = a + 2 + r := IntWalk.i64_in _ ⟨by omega, by omega⟩
  have g3 : IntKind.i64.wrap (a + 2 + fl) = a + 2 + fl := IntWalk.i64_in _ ⟨by omega, by omega⟩
  have g4 : IntKind.i64.wrap (a + 2 + r + fl) = a + 2 + r + fl := IntWalk.i64_in _ ⟨by omega, by omega⟩
  go_enter Try.func73, Try.ntmps73
  go_wp2_with fail
  refine named (fun W1 hW1 => ?_)
  have KW1 : Keeps w W1 := by rw [hW1]; exact ((Touch.refl _ w).alloc _)
  have BW1_S : BL W1 (w.heap.size) 34 [.pointer P, .pointer Q] := by rw [hW1]; exact (BL.new1 _ _ _ [.pointer P, .pointer Q] _ (by simp) rfl)
  have zW1 : w.heap.size + 1 ≤ W1.heap.size := by rw [hW1]; simp
  clear hW1
  have l2 := BW1_S.lt
  refine Calls.mono (HO.out _ KW1) ?_
  rintro e w3 ⟨rfl, kw3⟩
  have Kw3 := Keeps.trans KW1 kw3
  have Bw3_S := BL.keep BW1_S kw3
  have zw3 := kw3.size
  clear l2 BW1_S KW1 kw3
  have l4 := Bw3_S.lt
  go_wp2_with fail
  go_returns
  exact ⟨rfl, (Kw3.alloc _)⟩

set_option maxHeartbeats 1000000 in
theorem cell_neg (P Q : Option Addr) (a fl : Int) (w : World) (p : Th × Int) (hat : ∀ w', Keeps w w' → Calls Try.prog 44 #[.agg #[.pointer P, .pointer Q], .int .i64 a] w' fun e w2 => e = .returned (.tuple #[thV p.1, .int .i64 p.2]) ∧ Keeps w' w2) (hx : p.2 = 0) (h0 : fl < 0) :
    Calls Try.prog 73 #[.agg #[.pointer P, .pointer Q], .int .i64 a, .int .i64 fl] w (ErrAt 1 w) := by
  have HO := Lib.hid hat
  clear hat
  obtain ⟨⟨⟨c, ag, fw, mk, fi, dn⟩, r, d, k⟩, x⟩ := p
  unfold thV at *
  dsimp only at *
  subst hx
  go_enter Try.func73, Try.ntmps73
  go_wp2_with fail
  refine named (fun W1 hW1 => ?_)
  have KW1 : Keeps w W1 := by rw [hW1]; exact ((Touch.refl _ w).alloc _)
  have BW1_S : BL W1 (w.heap.size) 34 [.pointer P, .pointer Q] := by rw [hW1]; exact (BL.new1 _ _ _ [.pointer P, .pointer Q] _ (by simp) rfl)
  have zW1 : w.heap.size + 1 ≤ W1.heap.size := by rw [hW1]; simp
  clear hW1
  have l2 := BW1_S.lt
  refine Calls.mono (HO.out _ KW1) ?_
  rintro e w3 ⟨rfl, kw3⟩
  have Kw3 := Keeps.trans KW1 kw3
  have Bw3_S := BL.keep BW1_S kw3
  have zw3 := kw3.size
  clear l2 BW1_S KW1 kw3
  have l4 := Bw3_S.lt
  go_wp2_with fail
  go_returns
  exact ⟨⟨_, rfl⟩, (Kw3.alloc _)⟩

set_option maxHeartbeats 1000000 in
theorem cell_far (P Q : Option Addr) (a fl : Int) (w : World) (p : Th × Int) (hat : ∀ w', Keeps w w' → Calls Try.prog 44 #[.agg #[.pointer P, .pointer Q], .int .i64 a] w' fun e w2 => e = .returned (.tuple #[thV p.1, .int .i64 p.2]) ∧ Keeps w' w2) (hx : p.2 = 0) (h0 : 0 ≤ fl) (h1 : p.1.data ≤ fl) :
    Calls Try.prog 73 #[.agg #[.pointer P, .pointer Q], .int .i64 a, .int .i64 fl] w (ErrAt 1 w) := by
  have HO := Lib.hid hat
  clear hat
  obtain ⟨⟨⟨c, ag, fw, mk, fi, dn⟩, r, d, k⟩, x⟩ := p
  unfold thV at *
  dsimp only at *
  subst hx
  go_enter Try.func73, Try.ntmps73
  go_wp2_with fail
  refine named (fun W1 hW1 => ?_)
  have KW1 : Keeps w W1 := by rw [hW1]; exact ((Touch.refl _ w).alloc _)
  have BW1_S : BL W1 (w.heap.size) 34 [.pointer P, .pointer Q] := by rw [hW1]; exact (BL.new1 _ _ _ [.pointer P, .pointer Q] _ (by simp) rfl)
  have zW1 : w.heap.size + 1 ≤ W1.heap.size := by rw [hW1]; simp
  clear hW1
  have l2 := BW1_S.lt
  refine Calls.mono (HO.out _ KW1) ?_
  rintro e w3 ⟨rfl, kw3⟩
  have Kw3 := Keeps.trans KW1 kw3
  have Bw3_S := BL.keep BW1_S kw3
  have zw3 := kw3.size
  clear l2 BW1_S KW1 kw3
  have l4 := Bw3_S.lt
  go_wp2_with fail
  go_returns
  exact ⟨⟨_, rfl⟩, (Kw3.alloc _)⟩

set_option maxHeartbeats 1000000 in
theorem cell_err (P Q : Option Addr) (a fl : Int) (w : World) (p : Th × Int) (hat : ∀ w', Keeps w w' → Calls Try.prog 44 #[.agg #[.pointer P, .pointer Q], .int .i64 a] w' fun e w2 => e = .returned (.tuple #[thV p.1, .int .i64 p.2]) ∧ Keeps w' w2) (hx : p.2 ≠ 0) :
    Calls Try.prog 73 #[.agg #[.pointer P, .pointer Q], .int .i64 a, .int .i64 fl] w (ErrAt p.2 w) := by
  have HO := Lib.hid hat
  clear hat
  obtain ⟨⟨⟨c, ag, fw, mk, fi, dn⟩, r, d, k⟩, x⟩ := p
  unfold thV at *
  dsimp only at *
  have hxn : (x == 0) = false := by simpa using hx
  clear hx
  go_enter Try.func73, Try.ntmps73
  go_wp2_with fail
  refine named (fun W1 hW1 => ?_)
  have KW1 : Keeps w W1 := by rw [hW1]; exact ((Touch.refl _ w).alloc _)
  have BW1_S : BL W1 (w.heap.size) 34 [.pointer P, .pointer Q] := by rw [hW1]; exact (BL.new1 _ _ _ [.pointer P, .pointer Q] _ (by simp) rfl)
  have zW1 : w.heap.size + 1 ≤ W1.heap.size := by rw [hW1]; simp
  clear hW1
  have l2 := BW1_S.lt
  refine Calls.mono (HO.out _ KW1) ?_
  rintro e w3 ⟨rfl, kw3⟩
  have Kw3 := Keeps.trans KW1 kw3
  have Bw3_S := BL.keep BW1_S kw3
  have zw3 := kw3.size
  clear l2 BW1_S KW1 kw3
  have l4 := Bw3_S.lt
  go_wp2_with fail
  go_returns
  exact ⟨⟨_, rfl⟩, (Kw3.alloc _)⟩

theorem oload_yes (ba bw n : Nat) (f : Nat → Int) (bt : Nat) (A : Option Addr) (m cap : Nat) (C : Nat → Cl) (w : World) (h : St w ba bw n f bt A m cap C) (a : Int) (h0 : 0 ≤ a) (h1 : a < n) :
    Calls Try.prog 74 #[stV ba bt, .int .i64 a, .int .i64 0] w fun e w' => e = .returned (.tuple #[.int .i64 (f a.toNat), .int .i64 0]) ∧ Keeps w w' := by
  have hSt := Lib.hid h
  have HL := Lib.hid (fun w' (h : Ar w' ba bw n f) => load_at ba bw n f w' h a h0 h1)
  clear h
  unfold stV
  go_enter Try.func74, Try.ntmps74
  go_wp2_with fail
  refine named (fun W1 hW1 => ?_)
  have KW1 : Keeps w W1 := by rw [hW1]; exact ((Touch.refl _ w).alloc _)
  have BW1_S : BL W1 (w.heap.size) 34 [.pointer (some ⟨ba, 0, none⟩), .pointer (some ⟨bt, 0, none⟩)] := by rw [hW1]; exact (BL.new1 _ _ _ [.pointer (some ⟨ba, 0, none⟩), .pointer (some ⟨bt, 0, none⟩)] _ (by simp) rfl)
  have zW1 : w.heap.size + 1 ≤ W1.heap.size := by rw [hW1]; simp
  clear hW1
  have l2 := BW1_S.lt
  refine Calls.mono (HL.out _ (hSt.out.keep KW1).ar) ?_
  rintro e wz ⟨rfl, rfl⟩
  go_wp2_with fail
  go_returns
  exact ⟨rfl, KW1⟩

theorem oload_err (P Q : Option Addr) (w : World) (a x : Int) (hx : x ≠ 0) :
    Calls Try.prog 74 #[.agg #[.pointer P, .pointer Q], .int .i64 a, .int .i64 x] w fun e w' => e = .returned (.tuple #[.int .i64 0, .int .i64 x]) ∧ Keeps w w' := by
  have hxn : (x != 0) = true := by simpa using hx
  clear hx
  go_enter Try.func74, Try.ntmps74
  go_wp2_with fail
  go_returns
  exact ⟨rfl, ((Touch.refl _ w).alloc _)⟩

theorem ostore_yes (ba bw n : Nat) (f : Nat → Int) (bt : Nat) (A : Option Addr) (m cap : Nat) (C : Nat → Cl) (w : World) (h : St w ba bw n f bt A m cap C) (v a : Int) (h0 : 0 ≤ a) (h1 : a < n) :
    Calls Try.prog 46 #[stV ba bt, .int .i64 v, .int .i64 a, .int .i64 0] w fun e w' => e = .returned (.int .i64 0) ∧ St w' ba bw n (putF f a.toNat v) bt A m cap C ∧ Only bw w w' := by
  have hSt := Lib.hid h
  obtain ⟨j, rfl⟩ := Int.eq_ofNat_of_zero_le h0
  have HL := Lib.hid (fun w' (h : Ar w' ba bw n f) => store_yes ba bw n f w' h j (by omega) v)
  have hlt := h.ar.lt2
  clear h
  unfold stV
  go_enter Try.func46, Try.ntmps46
  go_wp2_with fail
  refine named (fun W1 hW1 => ?_)
  have KW1 : Keeps w W1 := by rw [hW1]; exact ((Touch.refl _ w).alloc _)
  have BW1_S : BL W1 (w.heap.size) 34 [.pointer (some ⟨ba, 0, none⟩), .pointer (some ⟨bt, 0, none⟩)] := by rw [hW1]; exact (BL.new1 _ _ _ [.pointer (some ⟨ba, 0, none⟩), .pointer (some ⟨bt, 0, none⟩)] _ (by simp) rfl)
  have zW1 : w.heap.size + 1 ≤ W1.heap.size := by rw [hW1]; simp
  clear hW1
  have l2 := BW1_S.lt
  refine Calls.mono (HL.out _ (hSt.out.keep KW1).ar) ?_
  rintro e w2 ⟨rfl, ha2, o2⟩
  go_wp2_with fail
  go_returns
  exact ⟨rfl, (hSt.out.keep KW1).only ha2 o2, (Touch.only KW1).trans_ o2⟩

theorem ostore_err (P Q : Option Addr) (w : World) (v a x : Int) (hx : x ≠ 0) :
    Calls Try.prog 46 #[.agg #[.pointer P, .pointer Q], .int .i64 v, .int .i64 a, .int .i64 x] w fun e w' => e = .returned (.int .i64 x) ∧ Keeps w w' := by
  have hxn : (x != 0) = true := by simpa using hx
  clear hx
  go_enter Try.func46, Try.ntmps46
  go_wp2_with fail
  go_returns
  exact ⟨rfl, ((Touch.refl _ w).alloc _)⟩

set_option maxHeartbeats 1000000 in
theorem ref_core (P Q : Option Addr) (a fl : Int) (w : World) (R : Int → Int → Prop) (hs : ∀ w', Keeps w w' → Calls Try.prog 45 #[.agg #[.pointer P, .pointer Q], .int .i64 a, .int .i64 fl] w' fun e w2 => (∃ x y, R x y ∧ e = .returned (.tuple #[.int .i64 x, .int .i64 y])) ∧ Keeps w' w2)
    (z u : Int) (hl : ∀ w' x y, Keeps w w' → R x y → Calls Try.prog 74 #[.agg #[.pointer P, .pointer Q], .int .i64 x, .int .i64 y] w' fun e w2 => e = .returned (.tuple #[.int .i64 z, .int .i64 u]) ∧ Keeps w' w2) :
    Calls Try.prog 47 #[.agg #[.pointer P, .pointer Q], .int .i64 a, .int .i64 fl] w fun e w' => e = .returned (.tuple #[.int .i64 z, .int .i64 u]) ∧ Keeps w w' := by
  have HS := Lib.hid hs
  have HL := Lib.hid hl
  clear hs hl
  go_enter Try.func47, Try.ntmps47
  go_wp2_with fail
  refine named_code (fun W1 hW1 => ?_)
  have KW1 : Keeps w W1 := by rw [hW1]; exact ((Touch.refl _ w).alloc _)
  have BW1_S : BL W1 (w.heap.size) 34 [.pointer P, .pointer Q] := by rw [hW1]; exact (BL.new1 _ _ _ [.pointer P, .pointer Q] _ (by simp) rfl)
  have zW1 : w.heap.size + 1 ≤ W1.heap.size := by rw [hW1]; simp
  clear hW1
  have l2 := BW1_S.lt
  refine wp_region_noPanic ?_
  refine wp_region_held_drew (S := (fun w' => BL w' (w.heap.size) 34 [.pointer P, .pointer Q] ∧ Keeps W1 w')) (by kernel_rfl) ⟨BW1_S.drew, (Touch.refl _ _).drew⟩ (fun hHeld => ?_)
  refine' wpAnyH_take (i := 0) ?hi0 ?hs0 ?hf0 ?hr0 ?hQ0 ?hy0 (by assumption) ?rest0
  case hi0 => simp only [List.getElem?_toArray, List.getElem?_cons_zero] <;> rfl
  case hs0 => kernel_rfl
  case hf0 => kernel_rfl
  case hr0 => kernel_rfl
  case hQ0 => exact fun _ _ _ h => h
  case hy0 => exact Or.inl ⟨by rfl, fun w hSw => by obtain ⟨hS1, hS2⟩ := hSw; have q0 := hS1.c 0 (.pointer P) rfl; have q1 := hS1.c 1 (.pointer Q) rfl; clear hS1; go_simp <;> (try with_reducible rfl)⟩
  simp only [Act.put, List.setIfInBounds_toArray, List.set_cons_zero, List.set_cons_succ]
  refine' wpAnyH_take (i := 1) ?hi1 ?hs1 ?hf1 ?hr1 ?hQ1 ?hy1 (by assumption) ?rest1
  case hi1 => simp only [List.getElem?_toArray, List.getElem?_cons_succ, List.getElem?_cons_zero] <;> rfl
  case hs1 => kernel_rfl
  case hf1 => kernel_rfl
  case hr1 => kernel_rfl
  case hQ1 => exact fun _ _ _ h => h
  case hy1 => exact Or.inl ⟨by rfl, fun w hSw => by obtain ⟨hS1, hS2⟩ := hSw; have q0 := hS1.c 0 (.pointer P) rfl; have q1 := hS1.c 1 (.pointer Q) rfl; clear hS1; go_simp <;> (try with_reducible rfl)⟩
  simp only [Act.put, List.setIfInBounds_toArray, List.set_cons_zero, List.set_cons_succ]
  refine' wpAnyH_take (i := 2) ?hi2 ?hs2 ?hf2 ?hr2 ?hQ2 ?hy2 (by assumption) ?rest2
  case hi2 => simp only [List.getElem?_toArray, List.getElem?_cons_succ, List.getElem?_cons_zero] <;> rfl
  case hs2 => kernel_rfl
  case hf2 => kernel_rfl
  case hr2 => kernel_rfl
  case hQ2 => exact fun _ _ _ h => h
  case hy2 => exact Or.inl ⟨by rfl, fun w hSw => by obtain ⟨hS1, hS2⟩ := hSw; have q0 := hS1.c 0 (.pointer P) rfl; have q1 := hS1.c 1 (.pointer Q) rfl; clear hS1; go_simp <;> (try with_reducible rfl)⟩
  simp only [Act.put, List.setIfInBounds_toArray, List.set_cons_zero, List.set_cons_succ]
  refine' wpAnyH_take (i := 3) ?hi3 ?hs3 ?hf3 ?hr3 ?hQ3 ?hy3 (by assumption) ?rest3
  case hi3 => simp only [List.getElem?_toArray, List.getElem?_cons_succ, List.getElem?_cons_zero] <;> rfl
  case hs3 => kernel_rfl
  case hf3 => kernel_rfl
  case hr3 => kernel_rfl
  case hQ3 => exact fun _ _ _ h => h
  case hy3 => exact Or.inl ⟨by rfl, fun w hSw => by obtain ⟨hS1, hS2⟩ := hSw; have q0 := hS1.c 0 (.pointer P) rfl; have q1 := hS1.c 1 (.pointer Q) rfl; clear hS1; go_simp <;> (try with_reducible rfl)⟩
  simp only [Act.put, List.setIfInBounds_toArray, List.set_cons_zero, List.set_cons_succ]
  refine wpAnyH_ready (rs := [4]) (by kernel_rfl) (by simp) ?_
  refine AllReadyH.cons rfl (fun K hK => ?_) AllReadyH.nil
  go_simp
  (with_reducible refine (HS.out _ (Keeps.trans KW1 hHeld.2)).mono ?_; rintro e w' ⟨⟨x, y, hxy, rfl⟩, kq⟩)
  have HXY := Lib.hid hxy
  clear hxy
  go_wp2_with fail
  refine hK.out _ _ ⟨hHeld.1.keep kq, hHeld.2.trans kq⟩ (fun hHeld => ?_)
  clear hK K
  refine' wpAnyH_take (i := 5) ?hi5 ?hs5 ?hf5 ?hr5 ?hQ5 ?hy5 (by assumption) ?rest5
  case hi5 => simp only [List.getElem?_toArray, List.getElem?_cons_succ, List.getElem?_cons_zero] <;> rfl
  case hs5 => kernel_rfl
  case hf5 => kernel_rfl
  case hr5 => kernel_rfl
  case hQ5 => exact fun _ _ _ h => h
  case hy5 => exact Or.inl ⟨by rfl, fun w hSw => by go_simp <;> (try with_reducible rfl)⟩
  simp only [Act.put, List.setIfInBounds_toArray, List.set_cons_zero, List.set_cons_succ]
  refine' wpAnyH_take (i := 6) ?hi6 ?hs6 ?hf6 ?hr6 ?hQ6 ?hy6 (by assumption) ?rest6
  case hi6 => simp only [List.getElem?_toArray, List.getElem?_cons_succ, List.getElem?_cons_zero] <;> rfl
  case hs6 => kernel_rfl
  case hf6 => kernel_rfl
  case hr6 => kernel_rfl
  case hQ6 => exact fun _ _ _ h => h
  case hy6 => exact Or.inl ⟨by rfl, fun w hSw => by go_simp <;> (try with_reducible rfl)⟩
  simp only [Act.put, List.setIfInBounds_toArray, List.set_cons_zero, List.set_cons_succ]
  refine wpAnyH_ready (rs := [7]) (by kernel_rfl) (by simp) ?_
  refine AllReadyH.cons rfl (fun K hK => ?_) AllReadyH.nil
  go_simp
  (with_reducible refine (HL.out _ _ _ (Keeps.trans KW1 hHeld.2) HXY.out).mono ?_; rintro e w' ⟨rfl, kq2⟩)
  go_wp2_with fail
  refine hK.out _ _ ⟨hHeld.1.keep kq2, hHeld.2.trans kq2⟩ (fun hHeld => ?_)
  clear hK K
  refine' wpAnyH_take (i := 8) ?hi8 ?hs8 ?hf8 ?hr8 ?hQ8 ?hy8 (by assumption) ?rest8
  case hi8 => simp only [List.getElem?_toArray, List.getElem?_cons_succ, List.getElem?_cons_zero] <;> rfl
  case hs8 => kernel_rfl
  case hf8 => kernel_rfl
  case hr8 => kernel_rfl
  case hQ8 => exact fun _ _ _ h => h
  case hy8 => exact Or.inl ⟨by rfl, fun w hSw => by go_simp <;> (try with_reducible rfl)⟩
  simp only [Act.put, List.setIfInBounds_toArray, List.set_cons_zero, List.set_cons_succ]
  refine' wpAnyH_take (i := 9) ?hi9 ?hs9 ?hf9 ?hr9 ?hQ9 ?hy9 (by assumption) ?rest9
  case hi9 => simp only [List.getElem?_toArray, List.getElem?_cons_succ, List.getElem?_cons_zero] <;> rfl
  case hs9 => kernel_rfl
  case hf9 => kernel_rfl
  case hr9 => kernel_rfl
  case hQ9 => exact fun _ _ _ h => h
  case hy9 => exact Or.inl ⟨by rfl, fun w hSw => by go_simp <;> (try with_reducible rfl)⟩
  simp only [Act.put, List.setIfInBounds_toArray, List.set_cons_zero, List.set_cons_succ]
  refine' wpAnyH_take (i := 10) ?hi10 ?hs10 ?hf10 ?hr10 ?hQ10 ?hy10 (by assumption) ?rest10
  case hi10 => simp only [List.getElem?_toArray, List.getElem?_cons_succ, List.getElem?_cons_zero] <;> rfl
  case hs10 => kernel_rfl
  case hf10 => kernel_rfl
  case hr10 => kernel_rfl
  case hQ10 => exact fun _ _ _ h => h
  case hy10 => exact Or.inl ⟨by rfl, fun w hSw => by go_simp <;> (try with_reducible rfl)⟩
  simp only [Act.put, List.setIfInBounds_toArray, List.set_cons_zero, List.set_cons_succ]
  refine' wpAnyH_take (i := 11) ?hi11 ?hs11 ?hf11 ?hr11 ?hQ11 ?hy11 (by assumption) ?rest11
  case hi11 => simp only [List.getElem?_toArray, List.getElem?_cons_succ, List.getElem?_cons_zero] <;> rfl
  case hs11 => kernel_rfl
  case hf11 => kernel_rfl
  case hr11 => kernel_rfl
  case hQ11 => exact fun _ _ _ h => h
  case hy11 => exact Or.inl ⟨by rfl, fun w hSw => by go_simp <;> (try with_reducible rfl)⟩
  simp only [Act.put, List.setIfInBounds_toArray, List.set_cons_zero, List.set_cons_succ]
  refine wpAnyH_done (by kernel_rfl) ?_ _
  refine NoPanic.normal ?_
  go_wp2_with fail
  go_returns
  exact ⟨rfl, Keeps.trans KW1 hHeld.2⟩

end Go.Proofs.Ytabfbgkablbeeaa
