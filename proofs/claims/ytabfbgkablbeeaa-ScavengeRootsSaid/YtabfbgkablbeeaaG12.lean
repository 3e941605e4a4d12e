/- Layer 6, object: Lay, Gap. -/
import Derived.Test.YtabfbgkablbeeaaG11
set_option linter.all false

namespace Go.Proofs.Ytabfbgkablbeeaa
open Go.RowKit

theorem fill_at (ba bw n : Nat) (f : Nat → Int) (w : World) (h : Ar w ba bw n f) (a k : Int) (h0 : 0 ≤ a) (h1 : 0 < k) (h2 : a + k ≤ n) (v : Int) :
    Calls Try.prog 71 #[.pointer (some ⟨ba, 0, none⟩), .int .i64 a, .int .i64 k, .int .i64 v] w fun e w' => e = .returned (.int .i64 0) ∧ Ar w' ba bw n (fillF f a.toNat k.toNat v) ∧ Only bw w w' := by
  obtain ⟨i, rfl⟩ := Int.eq_ofNat_of_zero_le h0
  obtain ⟨j, rfl⟩ := Int.eq_ofNat_of_zero_le (Int.le_of_lt h1)
  exact fill_yes ba bw n f w h i j (by omega) (by omega) v
theorem store_at (ba bw n : Nat) (f : Nat → Int) (w : World) (h : Ar w ba bw n f) (a : Int) (h0 : 0 ≤ a) (h1 : a < n) (v : Int) :
    Calls Try.prog 72 #[.pointer (some ⟨ba, 0, none⟩), .int .i64 a, .int .i64 v] w fun e w' => e = .returned (.int .i64 0) ∧ Ar w' ba bw n (putF f a.toNat v) ∧ Only bw w w' := by
  obtain ⟨i, rfl⟩ := Int.eq_ofNat_of_zero_le h0
  exact store_yes ba bw n f w h i (by omega) v
theorem of_at (bt : Nat) (A : Option Addr) (m cap : Nat) (C : Nat → Cl) (w : World) (h : Tb w bt A m cap C) (c : Int) (h1 : 1 ≤ c) (h2 : c ≤ m) :
    Calls Try.prog 69 #[.pointer (some ⟨bt, 0, none⟩), .int .i64 c] w fun e w' => e = .returned (.tuple #[clV (C (c - 1).toNat), .int .i64 0]) ∧ Keeps w w' := by
  obtain ⟨k, rfl⟩ : ∃ k : Nat, c = (k : Int) + 1 := ⟨(c - 1).toNat, by omega⟩
  rw [show ((k : Int) + 1 - 1).toNat = k by omega]
  exact of_yes bt A m cap C w h k (by omega)
/-- The words of a new object. -/
def layW (c : Int) (fin : Bool) : Int := hdW ⟨c, 0, 0, false, fin, false⟩
def layF (f : Nat → Int) (a k W len : Int) : Nat → Int := putF (putF (fillF f a.toNat k.toNat 0) a.toNat W) (a + 1).toNat len
def gapW : Int := 0
def gap1W : Int := 1024
theorem lay_ok {C : Nat → Cl} {m : Nat} (_ : ∀ j, j < m → (C j).ok) (hm : m < 64) {c len : Int} (h : shE C m c len = 0) : (1 ≤ c ∧ c ≤ m) ∧ (Hd.ok ⟨c, 0, 0, false, (C (c - 1).toNat).fin, false⟩) := by
  by_cases h1 : 1 ≤ c ∧ c ≤ m
  · refine ⟨h1, ⟨by dsimp only; omega, by dsimp only; omega⟩, ⟨by dsimp only; omega, by dsimp only; omega⟩, ⟨by dsimp only; omega, by dsimp only; omega⟩, fun hh => by cases hh.2⟩
  · unfold shE at h; rw [if_pos h1] at h; cases h
theorem hok2 {C : Nat → Cl} {m : Nat} (hC : ∀ j, j < m → (C j).ok) {c len : Int} (h : shE C m c len = 0) : 2 ≤ shW C m c len := by
  obtain ⟨h1, h2, h3, h4⟩ := sh_bd hC h
  unfold shW
  rw [if_pos h]
  omega

set_option maxHeartbeats 1000000 in
theorem lay_yes (ba bw n : Nat) (f : Nat → Int) (bt : Nat) (A : Option Addr) (m cap : Nat) (C : Nat → Cl) (w : World) (h : St w ba bw n f bt A m cap C) (a c len : Int) (hE : shE C m c len = 0) (hT : thB n a (shW C m c len) = true) :
    Calls Try.prog 40 #[stV ba bt, .int .i64 a, .int .i64 c, .int .i64 len] w fun e w' => e = .returned (.int .i64 0) ∧ St w' ba bw n (layF f a (shW C m c len) (layW c (C (c - 1).toNat).fin) len) bt A m cap C ∧ Only bw w w' := by
  have hSt := Lib.hid h
  have hlt := h.ar.lt2
  have hz := zero_cl
  have hok := lay_ok h.tb.ok h.tb.le hE
  have HW := Lib.hid (fun w' (h : St w' ba bw n f bt A m cap C) => words_any bt A m cap C w' h.tb c len)
  have HT := Lib.hid (fun w' (h : St w' ba bw n f bt A m cap C) (k : Int) => there_any ba bw n f bt w' h.ar a k)
  have HO := Lib.hid (fun w' (h : St w' ba bw n f bt A m cap C) => of_at bt A m cap C w' h.tb c hok.1.1 hok.1.2)
  have HWd := Lib.hid (fun w' => word_yes ⟨c, 0, 0, false, (C (c - 1).toNat).fin, false⟩ w' hok.2)
  rw [hE] at HW
  obtain ⟨b1, b2, b3, b4⟩ := thB_true.1 hT
  have hT1 := Lib.hid hT
  have hb : 2 ≤ shW C m c len := hok2 h.tb.ok hE
  have hle := h.ar.le
  clear h hT hE
  generalize shW C m c len = k at *
  have HF := Lib.hid (fun w' (h : Ar w' ba bw n f) => fill_at ba bw n f w' h a k (by omega) (by omega) (by omega) 0)
  have HS1 := Lib.hid (fun w' (h : Ar w' ba bw n (fillF f a.toNat k.toNat 0)) => store_at ba bw n _ w' h a (by omega) (by omega) (hdW ⟨c, 0, 0, false, (C (c - 1).toNat).fin, false⟩))
  have HS2 := Lib.hid (fun w' (h : Ar w' ba bw n (putF (fillF f a.toNat k.toNat 0) a.toNat (hdW ⟨c, 0, 0, false, (C (c - 1).toNat).fin, false⟩))) => store_at ba bw n _ w' h (a + 1) (by omega) (by omega) len)
  have HL := Lib.hid (show layF f a k (layW c (C (c - 1).toNat).fin) len = putF (putF (fillF f a.toNat k.toNat 0) a.toNat (hdW ⟨c, 0, 0, false, (C (c - 1).toNat).fin, false⟩)) (a + 1).toNat len from rfl)
  generalize hdW ⟨c, 0, 0, false, (C (c - 1).toNat).fin, false⟩ = W0 at *
  clear hok
  generalize C (c - 1).toNat = cl at *
  obtain ⟨ck, cr, cd, cf⟩ := cl
  have HL2 := Lib.hid HL
  unfold stV clV hdV at *
  dsimp only at *
  have g1 : IntKind.i64.wrap (a + 1) = a + 1 := IntWalk.i64_in _ ⟨by omega, by omega⟩
  go_enter Try.func40, Try.ntmps40
  go_wp2_with fail
  refine named (fun W1 hW1 => ?_)
  have KW1 : Keeps w W1 := by rw [hW1]; exact ((Touch.refl _ w).alloc _)
  have BW1_S : BL W1 (w.heap.size) 34 [.pointer (some ⟨ba, 0, none⟩), .pointer (some ⟨bt, 0, none⟩)] := by rw [hW1]; exact (BL.new1 _ _ _ [.pointer (some ⟨ba, 0, none⟩), .pointer (some ⟨bt, 0, none⟩)] _ (by simp) rfl)
  have zW1 : w.heap.size + 1 ≤ W1.heap.size := by rw [hW1]; simp
  clear hW1
  have l2 := BW1_S.lt
  refine Calls.mono (HW.out _ (hSt.out.keep KW1)) ?_
  rintro e w3 ⟨rfl, kw3⟩
  have Kw3 := Keeps.trans KW1 kw3
  have Bw3_S := BL.keep BW1_S kw3
  have zw3 := kw3.size
  clear l2 BW1_S KW1 kw3
  have l4 := Bw3_S.lt
  have c5 : w3.cell? ⟨w.heap.size, 0, none⟩ = some (.pointer (some ⟨ba, 0, none⟩)) := Bw3_S.c 0 _ rfl
  have c6 : w3.cell? ⟨w.heap.size, 1, none⟩ = some (.pointer (some ⟨bt, 0, none⟩)) := Bw3_S.c 1 _ rfl
  go_wp2_with fail
  refine Calls.mono (HT.out _ (hSt.out.keep Kw3) k) ?_
  rintro e w7 ⟨rfl, kw7⟩
  have Kw7 := Keeps.trans Kw3 kw7
  have Bw7_S := BL.keep Bw3_S kw7
  have zw7 := kw7.size
  clear l4 c5 c6 Bw3_S Kw3 kw7
  have l8 := Bw7_S.lt
  have c9 : w7.cell? ⟨w.heap.size, 0, none⟩ = some (.pointer (some ⟨ba, 0, none⟩)) := Bw7_S.c 0 _ rfl
  have c10 : w7.cell? ⟨w.heap.size, 1, none⟩ = some (.pointer (some ⟨bt, 0, none⟩)) := Bw7_S.c 1 _ rfl
  rw [hT1.out]
  go_wp2_with fail
  refine Calls.mono (HO.out _ (hSt.out.keep Kw7)) ?_
  rintro e w11 ⟨rfl, kw11⟩
  have Kw11 := Keeps.trans Kw7 kw11
  have Bw11_S := BL.keep Bw7_S kw11
  have zw11 := kw11.size
  clear l8 c9 c10 Bw7_S Kw7 kw11
  have l12 := Bw11_S.lt
  have c13 : w11.cell? ⟨w.heap.size, 0, none⟩ = some (.pointer (some ⟨ba, 0, none⟩)) := Bw11_S.c 0 _ rfl
  have c14 : w11.cell? ⟨w.heap.size, 1, none⟩ = some (.pointer (some ⟨bt, 0, none⟩)) := Bw11_S.c 1 _ rfl
  go_wp2_with fail
  refine named (fun W15 hW15 => ?_)
  have KW15 : Keeps w W15 := by rw [hW15]; exact (Kw11.alloc _)
  have BW15_S : BL W15 (w.heap.size) 34 [.pointer (some ⟨ba, 0, none⟩), .pointer (some ⟨bt, 0, none⟩)] := by rw [hW15]; exact (BL.alloc Bw11_S _)
  have BW15_K : BL W15 (w11.heap.size) 53 [.int .i64 ck, .int .i64 cr, .int .i64 cd, .bool cf] := by rw [hW15]; exact (BL.new1 _ _ _ [.int .i64 ck, .int .i64 cr, .int .i64 cd, .bool cf] _ (by simp) rfl)
  have zW15 : w11.heap.size + 1 ≤ W15.heap.size := by rw [hW15]; simp
  clear l12 c13 c14 Bw11_S Kw11 hW15
  have l16 := BW15_S.lt
  have l17 := BW15_K.lt
  have c18 : W15.cell? ⟨w.heap.size, 0, none⟩ = some (.pointer (some ⟨ba, 0, none⟩)) := BW15_S.c 0 _ rfl
  have c19 : W15.cell? ⟨w.heap.size, 1, none⟩ = some (.pointer (some ⟨bt, 0, none⟩)) := BW15_S.c 1 _ rfl
  refine Calls.mono (HWd.out _) ?_
  rintro e w20 ⟨rfl, kw20⟩
  have Kw20 := Keeps.trans KW15 kw20
  have Bw20_S := BL.keep BW15_S kw20
  have Bw20_K := BL.keep BW15_K kw20
  have zw20 := kw20.size
  clear l16 l17 c18 c19 BW15_S BW15_K KW15 kw20
  have l21 := Bw20_S.lt
  have l22 := Bw20_K.lt
  have c23 : w20.cell? ⟨w.heap.size, 0, none⟩ = some (.pointer (some ⟨ba, 0, none⟩)) := Bw20_S.c 0 _ rfl
  have c24 : w20.cell? ⟨w.heap.size, 1, none⟩ = some (.pointer (some ⟨bt, 0, none⟩)) := Bw20_S.c 1 _ rfl
  go_wp2_with fail
  have SA := hSt.out.keep Kw20
  have OA := Touch.only (b := bw) Kw20
  clear hSt
  have zb : bw < w.heap.size := hlt
  refine Calls.mono (HF.out _ SA.ar) ?_
  rintro e w25 ⟨rfl, a1, o1⟩
  have Bw25_S := BL.touch Bw20_S o1 (by show ¬ (w.heap.size = bw); omega)
  have zw25 := o1.size
  clear l21 l22 c23 c24 Bw20_S Bw20_K
  have l26 := Bw25_S.lt
  have c27 : w25.cell? ⟨w.heap.size, 0, none⟩ = some (.pointer (some ⟨ba, 0, none⟩)) := Bw25_S.c 0 _ rfl
  have c28 : w25.cell? ⟨w.heap.size, 1, none⟩ = some (.pointer (some ⟨bt, 0, none⟩)) := Bw25_S.c 1 _ rfl
  have SB := SA.only a1 o1
  have OB := OA.trans_ o1
  clear SA OA a1 o1
  go_wp2_with fail
  refine Calls.mono (HS1.out _ SB.ar) ?_
  rintro e w29 ⟨rfl, a2, o2⟩
  have Bw29_S := BL.touch Bw25_S o2 (by show ¬ (w.heap.size = bw); omega)
  have zw29 := o2.size
  clear l26 c27 c28 Bw25_S
  have l30 := Bw29_S.lt
  have c31 : w29.cell? ⟨w.heap.size, 0, none⟩ = some (.pointer (some ⟨ba, 0, none⟩)) := Bw29_S.c 0 _ rfl
  have c32 : w29.cell? ⟨w.heap.size, 1, none⟩ = some (.pointer (some ⟨bt, 0, none⟩)) := Bw29_S.c 1 _ rfl
  have SC := SB.only a2 o2
  have OC := OB.trans_ o2
  clear SB OB a2 o2
  go_wp2_with fail
  refine Calls.mono (HS2.out _ SC.ar) ?_
  rintro e w33 ⟨rfl, a3, o3⟩
  have Bw33_S := BL.touch Bw29_S o3 (by show ¬ (w.heap.size = bw); omega)
  have zw33 := o3.size
  clear l30 c31 c32 Bw29_S
  have l34 := Bw33_S.lt
  have c35 : w33.cell? ⟨w.heap.size, 0, none⟩ = some (.pointer (some ⟨ba, 0, none⟩)) := Bw33_S.c 0 _ rfl
  have c36 : w33.cell? ⟨w.heap.size, 1, none⟩ = some (.pointer (some ⟨bt, 0, none⟩)) := Bw33_S.c 1 _ rfl
  have SD := SC.only a3 o3
  have OD := OC.trans_ o3
  clear SC OC a3 o3
  go_wp2_with fail
  go_returns
  exact ⟨rfl, by rw [HL.out]; exact SD, OD⟩

theorem lay_no_core (P Q : Option Addr) (a c len z x : Int) (w : World) (hx : x ≠ 0) (hs : ∀ w', Keeps w w' → Calls Try.prog 67 #[.pointer Q, .int .i64 c, .int .i64 len] w' fun e w2 => e = .returned (.tuple #[.int .i64 z, .int .i64 x]) ∧ Keeps w' w2) :
    Calls Try.prog 40 #[.agg #[.pointer P, .pointer Q], .int .i64 a, .int .i64 c, .int .i64 len] w fun e w' => e = .returned (.int .i64 x) ∧ Keeps w w' := by
  have HS := Lib.hid hs
  have hxn : (x != 0) = true := by simpa using hx
  clear hs hx
  go_enter Try.func40, Try.ntmps40
  go_wp2_with fail
  refine named (fun W1 hW1 => ?_)
  have KW1 : Keeps w W1 := by rw [hW1]; exact ((Touch.refl _ w).alloc _)
  have BW1_S : BL W1 (w.heap.size) 34 [.pointer P, .pointer Q] := by rw [hW1]; exact (BL.new1 _ _ _ [.pointer P, .pointer Q] _ (by simp) rfl)
  have zW1 : w.heap.size + 1 ≤ W1.heap.size := by rw [hW1]; simp
  clear hW1
  have l2 := BW1_S.lt
  refine Calls.mono (HS.out _ KW1) ?_
  rintro e w3 ⟨rfl, kw3⟩
  have Kw3 := Keeps.trans KW1 kw3
  have Bw3_S := BL.keep BW1_S kw3
  have zw3 := kw3.size
  clear l2 BW1_S KW1 kw3
  have l4 := Bw3_S.lt
  go_wp2_with fail
  go_returns
  exact ⟨rfl, Kw3⟩

theorem lay_far (ba bw n : Nat) (f : Nat → Int) (bt : Nat) (A : Option Addr) (m cap : Nat) (C : Nat → Cl) (w : World) (h : St w ba bw n f bt A m cap C) (a c len : Int) (hE : shE C m c len = 0) (hT : thB n a (shW C m c len) = false) :
    Calls Try.prog 40 #[stV ba bt, .int .i64 a, .int .i64 c, .int .i64 len] w fun e w' => e = .returned (.int .i64 2) ∧ Keeps w w' := by
  have hSt := Lib.hid h
  have HW := Lib.hid (fun w' (h : St w' ba bw n f bt A m cap C) => words_any bt A m cap C w' h.tb c len)
  have HT := Lib.hid (fun w' (h : St w' ba bw n f bt A m cap C) (k : Int) => there_any ba bw n f bt w' h.ar a k)
  rw [hE] at HW
  have hT1 := Lib.hid hT
  clear h hT hE
  generalize shW C m c len = k at *
  unfold stV at *
  go_enter Try.func40, Try.ntmps40
  go_wp2_with fail
  refine named (fun W1 hW1 => ?_)
  have KW1 : Keeps w W1 := by rw [hW1]; exact ((Touch.refl _ w).alloc _)
  have BW1_S : BL W1 (w.heap.size) 34 [.pointer (some ⟨ba, 0, none⟩), .pointer (some ⟨bt, 0, none⟩)] := by rw [hW1]; exact (BL.new1 _ _ _ [.pointer (some ⟨ba, 0, none⟩), .pointer (some ⟨bt, 0, none⟩)] _ (by simp) rfl)
  have zW1 : w.heap.size + 1 ≤ W1.heap.size := by rw [hW1]; simp
  clear hW1
  have l2 := BW1_S.lt
  refine Calls.mono (HW.out _ (hSt.out.keep KW1)) ?_
  rintro e w3 ⟨rfl, kw3⟩
  have Kw3 := Keeps.trans KW1 kw3
  have Bw3_S := BL.keep BW1_S kw3
  have zw3 := kw3.size
  clear l2 BW1_S KW1 kw3
  have l4 := Bw3_S.lt
  have c5 : w3.cell? ⟨w.heap.size, 0, none⟩ = some (.pointer (some ⟨ba, 0, none⟩)) := Bw3_S.c 0 _ rfl
  have c6 : w3.cell? ⟨w.heap.size, 1, none⟩ = some (.pointer (some ⟨bt, 0, none⟩)) := Bw3_S.c 1 _ rfl
  go_wp2_with fail
  refine Calls.mono (HT.out _ (hSt.out.keep Kw3) k) ?_
  rintro e w7 ⟨rfl, kw7⟩
  have Kw7 := Keeps.trans Kw3 kw7
  have Bw7_S := BL.keep Bw3_S kw7
  have zw7 := kw7.size
  clear l4 c5 c6 Bw3_S Kw3 kw7
  have l8 := Bw7_S.lt
  have c9 : w7.cell? ⟨w.heap.size, 0, none⟩ = some (.pointer (some ⟨ba, 0, none⟩)) := Bw7_S.c 0 _ rfl
  have c10 : w7.cell? ⟨w.heap.size, 1, none⟩ = some (.pointer (some ⟨bt, 0, none⟩)) := Bw7_S.c 1 _ rfl
  rw [hT1.out]
  go_wp2_with fail
  go_returns
  exact ⟨rfl, Kw7⟩

theorem zero_st (w : World) : (zeroValue 34).run Try.prog w = .ok (.agg #[.pointer none, .pointer none]) w := by kernel_rfl
theorem on_any (P Q : Option Addr) (w : World) : Calls Try.prog 15 #[.pointer P, .pointer Q] w fun e w' => e = .returned (.agg #[.pointer P, .pointer Q]) ∧ Keeps w w' := by
  have hz := zero_st
  go_enter Try.func15, Try.ntmps15
  go_wp2_with fail
  go_returns
  exact ⟨rfl, (Touch.refl _ w).alloc _⟩
/-- A nil store: nothing is there. -/
theorem there_nil (a k : Int) (w : World) : Calls Try.prog 68 #[.agg #[.pointer none, .pointer none], .int .i64 a, .int .i64 k] w fun e w' => e = .returned (.bool false) ∧ Keeps w w' := by
  have HL := Lib.hid (fun w' => alen_nil w')
  by_cases h1 : 1 ≤ a
  · have h3 : (0 : Int) ≤ a := by omega
    by_cases h2 : 1 ≤ k
    · go_enter Try.func68, Try.ntmps68
      go_wp2_with fail
      refine (HL.out _).mono ?_
      rintro e w1 ⟨rfl, rfl⟩
      go_wp2_with fail
      go_ret
      exact ⟨rfl, (Touch.refl _ w).alloc _⟩
    · have h4 : k < 1 := by omega
      go_enter Try.func68, Try.ntmps68
      go_wp2_with fail
      go_ret
      exact ⟨rfl, (Touch.refl _ w).alloc _⟩
  · have h1' : a < 1 := by omega
    go_enter Try.func68, Try.ntmps68
    go_wp2_with fail
    go_ret
    exact ⟨rfl, (Touch.refl _ w).alloc _⟩

theorem at_nil (a : Int) (w : World) : Calls Try.prog 63 #[.agg #[.pointer none, .pointer none], .int .i64 a] w fun e w' => e = .returned (.tuple #[thV th0, .int .i64 2]) ∧ Keeps w w' := by
  have hz := zero_th
  have HT := Lib.hid (fun w => there_nil a 1 w)
  go_enter Try.func63, Try.ntmps63
  go_wp2_with fail
  refine named (fun W1 hW1 => ?_)
  have KW1 : Keeps w W1 := by rw [hW1]; exact (((Touch.refl _ w).alloc _).alloc _)
  have BW1_S : BL W1 (w.heap.size) 34 [.pointer none, .pointer none] := by rw [hW1]; exact (BL.alloc (BL.new1 _ _ _ [.pointer none, .pointer none] _ (by simp) rfl) _)
  have BW1_R : BL W1 (w.heap.size + 1) 101 [.int .i64 0, .int .i64 0, .int .i64 0, .bool false, .bool false, .bool false, .int .i64 0, .int .i64 0, .int .i64 0] := by rw [hW1]; exact (BL.new1 _ _ _ [.int .i64 0, .int .i64 0, .int .i64 0, .bool false, .bool false, .bool false, .int .i64 0, .int .i64 0, .int .i64 0] _ (by simp) rfl)
  have zW1 : w.heap.size + 2 ≤ W1.heap.size := by rw [hW1]; simp
  clear hW1
  have l2 := BW1_S.lt
  have l3 := BW1_R.lt
  refine Calls.mono (HT.out _) ?_
  rintro e w4 ⟨rfl, kw4⟩
  have Kw4 := Keeps.trans KW1 kw4
  have Bw4_S := BL.keep BW1_S kw4
  have Bw4_R := BL.keep BW1_R kw4
  have zw4 := kw4.size
  clear l2 l3 BW1_S BW1_R KW1 kw4
  have l5 := Bw4_S.lt
  have l6 := Bw4_R.lt
  go_wp2_with (first | (refine store_bl ?_ 101 (.tmp 4) (.tmp 16) ?_ Bw4_R ?_ [.int .i64 0, .int .i64 0, .int .i64 0, .bool false, .bool false, .bool false, .int .i64 0, .int .i64 0, .int .i64 0] ?_ sz_th rfl rfl ?_; rfl; rfl; rfl; rfl; intro W7 BW7_R kW7; have KW7 := Keeps.new Kw4 kW7 (by show w.heap.size ≤ w.heap.size + 1; omega); have zW7 : w4.heap.size + 0 ≤ W7.heap.size := Nat.le_trans (by simp) kW7.size; clear l5 l6 Bw4_S Bw4_R Kw4 kW7; have l8 := BW7_R.lt))
  have HE := BW7_R
  have s0 := HE.c 0 (.int .i64 0) rfl
  have s1 := HE.c 1 (.int .i64 0) rfl
  have s2 := HE.c 2 (.int .i64 0) rfl
  have s3 := HE.c 3 (.bool false) rfl
  have s4 := HE.c 4 (.bool false) rfl
  have s5 := HE.c 5 (.bool false) rfl
  have s6 := HE.c 6 (.int .i64 0) rfl
  have s7 := HE.c 7 (.int .i64 0) rfl
  have s8 := HE.c 8 (.int .i64 0) rfl
  refine bodyPost_ret (v := .tuple #[.agg #[.int .i64 0, .int .i64 0, .int .i64 0, .bool false, .bool false, .bool false, .int .i64 0, .int .i64 0, .int .i64 0], .int .i64 2]) (by simp [results, Try.results63, go_sem, s0, s1, s2, s3, s4, s5, s6, s7, s8]) rfl ⟨rfl, KW7⟩

end Go.Proofs.Ytabfbgkablbeeaa
