/- The law's both: a store of the program's and one of the document's. -/
import Derived.Test.YtnijlddmbemnoaaONil
import Derived.Test.YtnijlddmbemnoaaRef5
namespace Go.Proofs.Ytnijlddmbemnoaa
open Go.RowKit

theorem zero_rst (w : World) : (zeroValue 41).run Try.prog w = .ok (.agg #[.pointer none, .slice none 0 0]) w := by kernel_rfl
theorem sz_st : (Try.prog.info? 26).map (·.size) = some 2 := by kernel_rfl
theorem sz_rst : (Try.prog.info? 41).map (·.size) = some 2 := by kernel_rfl
theorem St.far {w w' : World} {ba bw n : Nat} {f : Nat → Int} {bt : Nat} {A : Option Addr} {m cap : Nat} {C : Nat → Cl} {b : Nat} (h : St w ba bw n f bt A m cap C) (k : Only b w w')
    (h1 : ba ≠ b) (h2 : bw ≠ b) (h3 : bt ≠ b) (h4 : ∀ b' off, A = some ⟨b', off, none⟩ → b' ≠ b) : St w' ba bw n f bt A m cap C :=
  ⟨h.ar.touch k h1 h2, h.tb.touch k h3 h4, h.ne, h.neA⟩

set_option maxHeartbeats 1000000 in
theorem both_yes (A : Option Addr) (n cap : Nat) (hA : A = none → n = 0 ∧ cap = 0) (C : Nat → Cl) (N : Nat) (hN : N ≤ 4096) (w : World) (hr : Rd w A (n * 4) (clF C)) (hn : n ≤ 100) (hE : newE C n = 0) :
    Calls Try.prog 15 #[.slice A n cap, .int .i64 (N : Int)] w fun e w' => ∃ ba bw bt A' cap' ra rw, e = .returned (.tuple #[.pointer (some ⟨ba, 0, none⟩), stV ba bt, .agg #[.pointer (some ⟨ra, 0, none⟩), .slice A n cap], .bool true]) ∧
      St w' ba bw N (fun _ => 0) bt A' n cap' C ∧ Blk w' ra 91 1 (fun _ => .slice (some ⟨rw, 0, none⟩) N N) ∧ Blk w' rw 3 N (fun _ => .int .i64 0) ∧ ra ≠ rw ∧
      w.heap.size ≤ bw ∧ w.heap.size ≤ ra ∧ w.heap.size ≤ rw ∧ bw ≠ ra ∧ bw ≠ rw ∧ Keeps w w' := by
  have hz1 := zero_st
  have hz2 := zero_rst
  obtain ⟨hC, h64⟩ := newE_zero.1 hE
  have HR := Lib.hid (fun w' (k : Keeps w w') => rnew_cls A n cap C w' (hr.keep k) (by omega))
  rw [hE] at HR
  have HN := Lib.hid (fun w' (k : Keeps w w') => cnew_yes A n cap hA C w' (hr.keep k) h64 hC)
  have HM := Lib.hid (fun w' => mnew_any N hN w')
  have HRM := Lib.hid (fun w' => rmnew_any N hN w')
  have HRd := Lib.hid hr
  have HCok := Lib.hid hC
  clear hr hC hA
  go_enter Try.func15, Try.ntmps15
  go_wp2_with fail
  refine named (fun W1 hW1 => ?_)
  have KW1 : Keeps w W1 := by rw [hW1]; exact (((Touch.refl _ w).alloc _).alloc _)
  have BW1_R5 : BL W1 (w.heap.size) 26 [.pointer none, .pointer none] := by rw [hW1]; exact (BL.alloc (BL.new1 _ _ _ [.pointer none, .pointer none] _ (by simp) rfl) _)
  have BW1_R6 : BL W1 (w.heap.size + 1) 41 [.pointer none, .slice none 0 0] := by rw [hW1]; exact (BL.new1 _ _ _ [.pointer none, .slice none 0 0] _ (by simp) rfl)
  have zW1 : w.heap.size + 2 ≤ W1.heap.size := by rw [hW1]; simp
  clear hW1
  have l2 := BW1_R5.lt
  have l3 := BW1_R6.lt
  refine Calls.mono (HR.out _ KW1) ?_
  rintro e w4 ⟨rfl, kw4⟩
  have Kw4 := Keeps.trans KW1 kw4
  have Bw4_R5 := BL.keep BW1_R5 kw4
  have Bw4_R6 := BL.keep BW1_R6 kw4
  have zw4 := kw4.size
  clear l2 l3 BW1_R5 BW1_R6 KW1 kw4
  have l5 := Bw4_R5.lt
  have l6 := Bw4_R6.lt
  go_wp2_with fail
  refine Calls.mono (HN.out _ Kw4) ?_
  rintro e wa ⟨bt, A', cap', rfl, hT, hb, hA', k1⟩
  have Kwa := Keeps.trans Kw4 k1
  have Bwa_R5 := BL.keep Bw4_R5 k1
  have Bwa_R6 := BL.keep Bw4_R6 k1
  have zwa := k1.size
  clear l5 l6 Bw4_R5 Bw4_R6 Kw4
  have l7 := Bwa_R5.lt
  have l8 := Bwa_R6.lt
  have hbt := hT.head.lt
  have HT := Lib.hid hT
  have HA' := Lib.hid hA'
  clear hT hA'
  go_wp2_with fail
  refine Calls.mono (HM.out _) ?_
  rintro e wb ⟨ba, bw, rfl, ha, ba1, hbw, k2⟩
  have Kwb := Keeps.trans Kwa k2
  have Bwb_R5 := BL.keep Bwa_R5 k2
  have Bwb_R6 := BL.keep Bwa_R6 k2
  have zwb := k2.size
  clear l7 l8 Bwa_R5 Bwa_R6 Kwa
  have l9 := Bwb_R5.lt
  have l10 := Bwb_R6.lt
  have hbwl := ha.lt2
  have S2 : St wb ba bw N (fun _ => 0) bt A' n cap' C := ⟨ha, HT.out.keep k2, by omega, fun b off e => by have := (HA'.out b off e).2; omega⟩
  have HS2 := Lib.hid S2
  clear S2 ha HT k1 k2
  go_wp2_with fail
  refine Calls.mono (on_any _ _ _) ?_
  rintro e wc ⟨rfl, k3⟩
  have Kwc := Keeps.trans Kwb k3
  have Bwc_R5 := BL.keep Bwb_R5 k3
  have Bwc_R6 := BL.keep Bwb_R6 k3
  have zwc := k3.size
  clear l9 l10 Bwb_R5 Bwb_R6 Kwb
  have l11 := Bwc_R5.lt
  have l12 := Bwc_R6.lt
  have HS3 := Lib.hid (HS2.out.keep k3)
  clear HS2 k3
  go_wp2_with fail
  refine Calls.mono (HRM.out _) ?_
  rintro e wd ⟨ra, rw', rfl, hra, hrw, hne, hra0, hrw0, k4⟩
  have Kwd := Keeps.trans Kwc k4
  have Bwd_R5 := BL.keep Bwc_R5 k4
  have Bwd_R6 := BL.keep Bwc_R6 k4
  have zwd := k4.size
  clear l11 l12 Bwc_R5 Bwc_R6 Kwc
  have l13 := Bwd_R5.lt
  have l14 := Bwd_R6.lt
  have HS4 := Lib.hid (HS3.out.keep k4)
  have HRA := Lib.hid hra
  have HRW := Lib.hid hrw
  clear HS3 hra hrw k4
  go_wp2_with (first | (refine store_bl ?_ 26 (.tmp 5) (.tmp 31) ?_ Bwd_R5 ?_ [.pointer (some ⟨ba, 0, none⟩), .pointer (some ⟨bt, 0, none⟩)] ?_ sz_st rfl rfl ?_; rfl; rfl; rfl; rfl; intro W15 BW15_R5 kW15; have KW15 := Keeps.new Kwd kW15 (by show w.heap.size ≤ w.heap.size; omega); have BW15_R6 := BL.touch Bwd_R6 kW15 (by show ¬ (w.heap.size + 1 = w.heap.size); omega); have zW15 : wd.heap.size + 0 ≤ W15.heap.size := Nat.le_trans (by simp) kW15.size; clear l13 l14 Bwd_R5 Bwd_R6 Kwd; have l16 := BW15_R5.lt; have l17 := BW15_R6.lt) | (refine store_bl ?_ 41 (.tmp 6) (.tmp 35) ?_ BW15_R6 ?_ [.pointer (some ⟨ra, 0, none⟩), .slice A n cap] ?_ sz_rst rfl rfl ?_; rfl; rfl; rfl; rfl; intro W18 BW18_R6 kW18; have KW18 := Keeps.new KW15 kW18 (by show w.heap.size ≤ w.heap.size + 1; omega); have BW18_R5 := BL.touch BW15_R5 kW18 (by show ¬ (w.heap.size = w.heap.size + 1); omega); have zW18 : W15.heap.size + 0 ≤ W18.heap.size := Nat.le_trans (by simp) kW18.size; clear l16 l17 BW15_R5 BW15_R6 KW15; have l19 := BW18_R6.lt; have l20 := BW18_R5.lt))
  have HE5 := BW18_R5
  have HE6 := BW18_R6
  have s50 := HE5.c 0 (.pointer (some ⟨ba, 0, none⟩)) rfl
  have s51 := HE5.c 1 (.pointer (some ⟨bt, 0, none⟩)) rfl
  have s60 := HE6.c 0 (.pointer (some ⟨ra, 0, none⟩)) rfl
  have s61 := HE6.c 1 (.slice A n cap) rfl
  refine bodyPost_ret (v := .tuple #[.pointer (some ⟨ba, 0, none⟩), .agg #[.pointer (some ⟨ba, 0, none⟩), .pointer (some ⟨bt, 0, none⟩)], .agg #[.pointer (some ⟨ra, 0, none⟩), .slice A n cap], .bool true]) (by simp [results, Try.results15, go_sem, s50, s51, s60, s61]) rfl ?_
  have q1 := HS4.out.ar.lt1
  have nA : ∀ b : Nat, b < wa.heap.size → (∀ b' off, A' = some ⟨b', off, none⟩ → b' ≠ b) → True := fun _ _ _ => trivial
  have hsz := KW18.size
  have S5 := St.far HS4.out kW15 (by have := ba1; omega) (by omega) (by omega) (fun b' off e => by have := (HA'.out b' off e).1; omega)
  have S6 := St.far S5 kW18 (by have := ba1; omega) (by omega) (by omega) (fun b' off e => by have := (HA'.out b' off e).1; omega)
  exact ⟨ba, bw, bt, A', cap', ra, rw', rfl, S6, (HRA.out.touch kW15 (by show ¬ (ra = _); omega)).touch kW18 (by show ¬ (ra = _); omega), (HRW.out.touch kW15 (by show ¬ (rw' = _); omega)).touch kW18 (by show ¬ (rw' = _); omega), hne, by omega, by omega, by omega, by omega, by omega, KW18⟩

set_option maxHeartbeats 1000000 in
theorem both_full (A : Option Addr) (n cap : Nat) (hA : A = none → n = 0 ∧ cap = 0) (C : Nat → Cl) (N : Nat) (hN : N ≤ 4096) (w : World) (hr : Rd w A (n * 4) (clF C)) (hn : 100 < n) :
    Calls Try.prog 15 #[.slice A n cap, .int .i64 (N : Int)] w fun e w' => e = .returned (.tuple #[.pointer none, .agg #[.pointer none, .pointer none], .agg #[.pointer none, .slice none 0 0], .bool false]) ∧ Keeps w w' := by
  have hz1 := zero_st
  have hz2 := zero_rst
  have hn' : (100 : Int) < (n : Int) := by omega
  go_enter Try.func15, Try.ntmps15
  go_wp2_with fail
  go_returns
  exact ⟨rfl, (((Touch.refl _ w).alloc _).alloc _)⟩

set_option maxHeartbeats 1000000 in
theorem both_bad (A : Option Addr) (n cap : Nat) (hA : A = none → n = 0 ∧ cap = 0) (C : Nat → Cl) (N : Nat) (hN : N ≤ 4096) (w : World) (hr : Rd w A (n * 4) (clF C)) (hn : n ≤ 100 ∧ newE C n ≠ 0) :
    Calls Try.prog 15 #[.slice A n cap, .int .i64 (N : Int)] w fun e w' => e = .returned (.tuple #[.pointer none, .agg #[.pointer none, .pointer none], .agg #[.pointer none, .slice none 0 0], .bool false]) ∧ Keeps w w' := by
  have hz1 := zero_st
  have hz2 := zero_rst
  obtain ⟨hn1, hE⟩ := hn
  have HR := Lib.hid (fun w' (k : Keeps w w') => rnew_cls A n cap C w' (hr.keep k) (by omega))
  have hEn : (newE C n != 0) = true := by simpa using hE
  generalize newE C n = x at *
  clear hE hr hA
  go_enter Try.func15, Try.ntmps15
  go_wp2_with fail
  refine named (fun W1 hW1 => ?_)
  have KW1 : Keeps w W1 := by rw [hW1]; exact (((Touch.refl _ w).alloc _).alloc _)
  have BW1_R5 : BL W1 (w.heap.size) 26 [.pointer none, .pointer none] := by rw [hW1]; exact (BL.alloc (BL.new1 _ _ _ [.pointer none, .pointer none] _ (by simp) rfl) _)
  have BW1_R6 : BL W1 (w.heap.size + 1) 41 [.pointer none, .slice none 0 0] := by rw [hW1]; exact (BL.new1 _ _ _ [.pointer none, .slice none 0 0] _ (by simp) rfl)
  have zW1 : w.heap.size + 2 ≤ W1.heap.size := by rw [hW1]; simp
  clear hW1
  have l2 := BW1_R5.lt
  have l3 := BW1_R6.lt
  refine Calls.mono (HR.out _ KW1) ?_
  rintro e w4 ⟨rfl, kw4⟩
  have Kw4 := Keeps.trans KW1 kw4
  have Bw4_R5 := BL.keep BW1_R5 kw4
  have Bw4_R6 := BL.keep BW1_R6 kw4
  have zw4 := kw4.size
  clear l2 l3 BW1_R5 BW1_R6 KW1 kw4
  have l5 := Bw4_R5.lt
  have l6 := Bw4_R6.lt
  go_wp2_with (first | (refine store_bl ?_ 26 (.tmp 5) (.tmp 19) ?_ Bw4_R5 ?_ [.pointer none, .pointer none] ?_ sz_st rfl rfl ?_; rfl; rfl; rfl; rfl; intro W7 BW7_R5 kW7; have KW7 := Keeps.new Kw4 kW7 (by show w.heap.size ≤ w.heap.size; omega); have BW7_R6 := BL.touch Bw4_R6 kW7 (by show ¬ (w.heap.size + 1 = w.heap.size); omega); have zW7 : w4.heap.size + 0 ≤ W7.heap.size := Nat.le_trans (by simp) kW7.size; clear l5 l6 Bw4_R5 Bw4_R6 Kw4 kW7; have l8 := BW7_R5.lt; have l9 := BW7_R6.lt) | (refine store_bl ?_ 41 (.tmp 6) (.tmp 20) ?_ BW7_R6 ?_ [.pointer none, .slice none 0 0] ?_ sz_rst rfl rfl ?_; rfl; rfl; rfl; rfl; intro W10 BW10_R6 kW10; have KW10 := Keeps.new KW7 kW10 (by show w.heap.size ≤ w.heap.size + 1; omega); have BW10_R5 := BL.touch BW7_R5 kW10 (by show ¬ (w.heap.size = w.heap.size + 1); omega); have zW10 : W7.heap.size + 0 ≤ W10.heap.size := Nat.le_trans (by simp) kW10.size; clear l8 l9 BW7_R5 BW7_R6 KW7 kW10; have l11 := BW10_R6.lt; have l12 := BW10_R5.lt))
  have HE5 := BW10_R5
  have HE6 := BW10_R6
  have s50 := HE5.c 0 (.pointer none) rfl
  have s51 := HE5.c 1 (.pointer none) rfl
  have s60 := HE6.c 0 (.pointer none) rfl
  have s61 := HE6.c 1 (.slice none 0 0) rfl
  refine bodyPost_ret (v := .tuple #[.pointer none, .agg #[.pointer none, .pointer none], .agg #[.pointer none, .slice none 0 0], .bool false]) (by simp [results, Try.results15, go_sem, s50, s51, s60, s61]) rfl ⟨rfl, KW10⟩

end Go.Proofs.Ytnijlddmbemnoaa
