/- The law ObjectNil: awake; a nil store. -/
import Derived.Test.YtnijlddmbemnoaaObj6
import Derived.Test.YtnijlddmbemnoaaCln
namespace Go.Proofs.Ytnijlddmbemnoaa
open Go.RowKit

theorem object_nil (a : Int) (w : World) : Calls Try.prog 30 #[.agg #[.pointer none, .pointer none], .int .i64 a] w fun e w' => e = .returned (.tuple #[thV th0, .int .i64 2]) ∧ Keeps w w' :=
  object_core none none a w (th0, 2) (fun w' _ => at_nil a w')
theorem ohead_nil (a : Int) (w : World) : Calls Try.prog 11 #[.agg #[.pointer none, .pointer none], .int .i64 a] w fun e w' => e = .returned (.tuple #[.agg #[.int .i64 0, .int .i64 0, .int .i64 0, .bool false, .bool false, .bool false], .int .i64 2]) ∧ Keeps w w' :=
  ohead_core none none a w (th0, 2) (fun w' _ => object_nil a w')
theorem rd_cl1 {w : World} {b : Nat} {l : List Value} (h : BL w b 45 l) (c : Cl) (hl : l = [.int .i64 c.kind, .int .i64 c.refs, .int .i64 c.data, .bool c.fin]) : Rd w (some ⟨b, 0, none⟩) (1 * 4) (clF fun _ => c) := by
  subst hl
  intro _
  refine ⟨b, 0, rfl, h.lt, fun j hj => ?_⟩
  rcases (by omega : j = 0 ∨ j = 1 ∨ j = 2 ∨ j = 3) with rfl | rfl | rfl | rfl
  · exact h.c 0 _ rfl
  · exact h.c 1 _ rfl
  · exact h.c 2 _ rfl
  · exact h.c 3 _ rfl
/-- The first object of awake. -/
theorem lay9 : atT 9 (layF (fun _ => 0) 1 (shW (fun _ => ⟨1, 1, 1, false⟩) 1 1 0) (layW 1 false) 0) 1 (fun _ => ⟨1, 1, 1, false⟩) 1 = (⟨⟨1, 0, 0, false, false, false⟩, 1, 1, 4⟩, 0) ∧
    slE (objP (atT 9 (layF (fun _ => 0) 1 (shW (fun _ => ⟨1, 1, 1, false⟩) 1 1 0) (layW 1 false) 0) 1 (fun _ => ⟨1, 1, 1, false⟩) 1)) (objP (atT 9 (layF (fun _ => 0) 1 (shW (fun _ => ⟨1, 1, 1, false⟩) 1 1 0) (layW 1 false) 0) 1 (fun _ => ⟨1, 1, 1, false⟩) 1)).1.data 0 = 0 := by
  have h : atT 9 (layF (fun _ => 0) 1 (shW (fun _ => ⟨1, 1, 1, false⟩) 1 1 0) (layW 1 false) 0) 1 (fun _ => ⟨1, 1, 1, false⟩) 1 = (⟨⟨1, 0, 0, false, false, false⟩, 1, 1, 4⟩, 0) := by kernel_rfl
  rw [h]
  exact ⟨rfl, by decide⟩

set_option maxHeartbeats 1000000 in
theorem awake_any (w : World) : Calls Try.prog 8 #[] w fun e w' => e = .returned (.bool true) ∧ Keeps w w' := by
  have hz := zero_st
  go_enter Try.func8, Try.ntmps8
  go_wp2_with fail
  refine named (fun W1 hW1 => ?_)
  have KW1 : Keeps w W1 := by rw [hW1]; exact ((Touch.refl _ w).alloc _)
  have BW1_L : BL W1 (w.heap.size) 45 [.int .i64 1, .int .i64 1, .int .i64 1, .bool false] := by rw [hW1]; exact (BL.new1 _ _ _ [.int .i64 1, .int .i64 1, .int .i64 1, .bool false] _ (by simp) rfl)
  have zW1 : w.heap.size + 1 ≤ W1.heap.size := by rw [hW1]; simp
  clear hW1
  have l2 := BW1_L.lt
  have hrd := rd_cl1 BW1_L ⟨1, 1, 1, false⟩ rfl
  have HN := Lib.hid (cnew_yes (some ⟨w.heap.size, 0, none⟩) 1 1 (fun h => by cases h) (fun _ => ⟨1, 1, 1, false⟩) _ hrd (by omega) (fun j _ => by decide))
  clear hrd
  refine Calls.mono HN.out ?_
  rintro e w1 ⟨bt, A, cap, rfl, hT, hb, hA, k1⟩
  have Kw1 := Keeps.trans KW1 k1
  have HT := Lib.hid hT
  have HA := Lib.hid hA
  have hbt := hT.head.lt
  clear hT hA HN
  go_wp2_with fail
  refine (mnew_any 9 (by omega) w1).mono ?_
  rintro e w2 ⟨ba, bw, rfl, ha, hba, hbw0, k2⟩
  have S2 : St w2 ba bw 9 (fun _ => 0) bt A 1 cap (fun _ => ⟨1, 1, 1, false⟩) := ⟨ha, HT.out.keep k2, by omega, fun b off e => by have := (HA.out b off e).2; omega⟩
  have Kw2 := Keeps.trans Kw1 k2
  have hbw : w.heap.size ≤ bw := by have := Kw1.size; omega
  have z2 := k2.size
  have hlb := S2.ar.lt2
  clear HT HA k1 k2 ha Kw1
  clear l2
  go_wp2_with fail
  refine Calls.mono (on_any _ _ _) ?_
  rintro e w3 ⟨rfl, kw3⟩
  have Kw3 := Keeps.trans Kw2 kw3
  have zw3 := kw3.size
  have Sw3 := St.keep S2 kw3
  clear S2 Kw2 kw3
  go_wp2_with fail
  refine named (fun W4 hW4 => ?_)
  have KW4 : Keeps w W4 := by rw [hW4]; exact (Kw3.alloc _)
  have BW4_S : BL W4 (w3.heap.size) 26 [.pointer (some ⟨ba, 0, none⟩), .pointer (some ⟨bt, 0, none⟩)] := by rw [hW4]; exact (BL.new1 _ _ _ [.pointer (some ⟨ba, 0, none⟩), .pointer (some ⟨bt, 0, none⟩)] _ (by simp) rfl)
  have zW4 : w3.heap.size + 1 ≤ W4.heap.size := by rw [hW4]; simp
  have SW4 := St.keep Sw3 (show Keeps w3 W4 by rw [hW4]; exact ((Touch.refl _ _).alloc _))
  clear Sw3 Kw3 hW4
  have l5 := BW4_S.lt
  refine Calls.mono (lay_yes ba bw 9 _ bt A 1 cap (fun _ => ⟨1, 1, 1, false⟩) _ SW4 1 1 0 (by decide) (by decide)) ?_
  rintro e w6 ⟨rfl, Sw6, ow6⟩
  have Kw6 := Keeps.new KW4 ow6 (by have := hbw; omega)
  have Bw6_S := BL.touch BW4_S ow6 (by show ¬ (w3.heap.size = bw); omega)
  have zw6 := ow6.size
  clear l5 BW4_S KW4 ow6 SW4
  have l7 := Bw6_S.lt
  have c8 : w6.cell? ⟨w3.heap.size, 0, none⟩ = some (.pointer (some ⟨ba, 0, none⟩)) := Bw6_S.c 0 _ rfl
  have c9 : w6.cell? ⟨w3.heap.size, 1, none⟩ = some (.pointer (some ⟨bt, 0, none⟩)) := Bw6_S.c 1 _ rfl
  go_wp2_with fail
  have HL := Lib.hid lay9
  refine Calls.mono (size_any ba bw 9 _ bt A 1 cap (fun _ => ⟨1, 1, 1, false⟩) _ Sw6 1) ?_
  rintro e w10 ⟨rfl, kw10⟩
  have Kw10 := Keeps.trans Kw6 kw10
  have Bw10_S := BL.keep Bw6_S kw10
  have zw10 := kw10.size
  have Sw10 := St.keep Sw6 kw10
  clear l7 c8 c9 Sw6 Bw6_S Kw6 kw10
  have l11 := Bw10_S.lt
  have c12 : w10.cell? ⟨w3.heap.size, 0, none⟩ = some (.pointer (some ⟨ba, 0, none⟩)) := Bw10_S.c 0 _ rfl
  have c13 : w10.cell? ⟨w3.heap.size, 1, none⟩ = some (.pointer (some ⟨bt, 0, none⟩)) := Bw10_S.c 1 _ rfl
  rw [HL.out.1]
  go_wp2_with fail
  refine Calls.mono (setnum_yes ba bw 9 _ bt A 1 cap (fun _ => ⟨1, 1, 1, false⟩) _ Sw10 1 0 9 HL.out.2) ?_
  rintro e w14 ⟨rfl, Sw14, ow14⟩
  have Kw14 := Keeps.new Kw10 ow14 (by have := hbw; omega)
  have Bw14_S := BL.touch Bw10_S ow14 (by show ¬ (w3.heap.size = bw); omega)
  have zw14 := ow14.size
  clear l11 c12 c13 Bw10_S Kw10 ow14 Sw10
  have l15 := Bw14_S.lt
  go_wp2_with fail
  go_ret
  exact ⟨rfl, Kw14⟩

set_option maxHeartbeats 1000000 in
theorem onil_walk (a b : Int) (w : World) : Calls Try.prog 3 #[.int .i64 a, .int .i64 b] w fun e w' => e = .returned (.bool true) ∧ Keeps w w' := by
  have hz := zero_st
  have hz2 := zero_hd
  have HAt := Lib.hid (fun w => at_nil a w)
  have HO := Lib.hid (fun w => object_nil a w)
  go_enter Try.func3, Try.ntmps3
  go_wp2_with fail
  have K0 := Touch.refl (fun _ => False) w
  refine Calls.mono (awake_any _) ?_
  rintro e w1 ⟨rfl, kw1⟩
  have Kw1 := Keeps.trans K0 kw1
  have zw1 := kw1.size
  clear K0 kw1
  go_wp2_with fail
  refine named (fun W2 hW2 => ?_)
  have KW2 : Keeps w W2 := by rw [hW2]; exact (Kw1.alloc _)
  have BW2_S : BL W2 (w1.heap.size) 26 [.pointer none, .pointer none] := by rw [hW2]; exact (BL.new1 _ _ _ [.pointer none, .pointer none] _ (by simp) rfl)
  have zW2 : w1.heap.size + 1 ≤ W2.heap.size := by rw [hW2]; simp
  clear Kw1 hW2
  have l3 := BW2_S.lt
  refine Calls.mono (size_core none none a _ (th0, 2) (fun w' _ => HAt.out w')) ?_
  rintro e w4 ⟨rfl, kw4⟩
  have Kw4 := Keeps.trans KW2 kw4
  have Bw4_S := BL.keep BW2_S kw4
  have zw4 := kw4.size
  clear l3 BW2_S KW2 kw4
  have l5 := Bw4_S.lt
  have c6 : w4.cell? ⟨w1.heap.size, 0, none⟩ = some (.pointer none) := Bw4_S.c 0 _ rfl
  have c7 : w4.cell? ⟨w1.heap.size, 1, none⟩ = some (.pointer none) := Bw4_S.c 1 _ rfl
  go_wp2_with fail
  refine Calls.mono (oshape_core none none a _ (th0, 2) (fun w' _ => HO.out w')) ?_
  rintro e w8 ⟨rfl, kw8⟩
  have Kw8 := Keeps.trans Kw4 kw8
  have Bw8_S := BL.keep Bw4_S kw8
  have zw8 := kw8.size
  clear l5 c6 c7 Bw4_S Kw4 kw8
  have l9 := Bw8_S.lt
  have c10 : w8.cell? ⟨w1.heap.size, 0, none⟩ = some (.pointer none) := Bw8_S.c 0 _ rfl
  have c11 : w8.cell? ⟨w1.heap.size, 1, none⟩ = some (.pointer none) := Bw8_S.c 1 _ rfl
  go_wp2_with fail
  refine Calls.mono (ohead_nil a _) ?_
  rintro e w12 ⟨rfl, kw12⟩
  have Kw12 := Keeps.trans Kw8 kw12
  have Bw12_S := BL.keep Bw8_S kw12
  have zw12 := kw12.size
  clear l9 c10 c11 Bw8_S Kw8 kw12
  have l13 := Bw12_S.lt
  have c14 : w12.cell? ⟨w1.heap.size, 0, none⟩ = some (.pointer none) := Bw12_S.c 0 _ rfl
  have c15 : w12.cell? ⟨w1.heap.size, 1, none⟩ = some (.pointer none) := Bw12_S.c 1 _ rfl
  go_wp2_with fail
  refine named (fun W16 hW16 => ?_)
  have KW16 : Keeps w W16 := by rw [hW16]; exact (Kw12.alloc _)
  have BW16_S : BL W16 (w1.heap.size) 26 [.pointer none, .pointer none] := by rw [hW16]; exact (BL.alloc Bw12_S _)
  have zW16 : w12.heap.size + 1 ≤ W16.heap.size := by rw [hW16]; simp
  clear l13 c14 c15 Bw12_S Kw12 hW16
  have l17 := BW16_S.lt
  refine Calls.mono (lay_no_core none none a b 0 0 4 _ (by decide) (fun w' _ => words_nil w' b 0)) ?_
  rintro e w18 ⟨rfl, kw18⟩
  have Kw18 := Keeps.trans KW16 kw18
  have Bw18_S := BL.keep BW16_S kw18
  have zw18 := kw18.size
  clear l17 BW16_S KW16 kw18
  have l19 := Bw18_S.lt
  have c20 : w18.cell? ⟨w1.heap.size, 0, none⟩ = some (.pointer none) := Bw18_S.c 0 _ rfl
  have c21 : w18.cell? ⟨w1.heap.size, 1, none⟩ = some (.pointer none) := Bw18_S.c 1 _ rfl
  go_wp2_with fail
  refine Calls.mono (setref_err none none a 0 0 2 _ (by decide) (fun w' _ => slot_err none none a 0 w' (th0, 2) (fun w2 _ => HO.out w2) (by decide))) ?_
  rintro e w22 ⟨rfl, kw22⟩
  have Kw22 := Keeps.trans Kw18 kw22
  have Bw22_S := BL.keep Bw18_S kw22
  have zw22 := kw22.size
  clear l19 c20 c21 Bw18_S Kw18 kw22
  have l23 := Bw22_S.lt
  have c24 : w22.cell? ⟨w1.heap.size, 0, none⟩ = some (.pointer none) := Bw22_S.c 0 _ rfl
  have c25 : w22.cell? ⟨w1.heap.size, 1, none⟩ = some (.pointer none) := Bw22_S.c 1 _ rfl
  go_wp2_with fail
  refine Calls.mono (setnum_err none none a 0 0 2 _ (by decide) (fun w' _ => cell_err none none a 0 w' (th0, 2) (fun w2 _ => HO.out w2) (by decide))) ?_
  rintro e w26 ⟨rfl, kw26⟩
  have Kw26 := Keeps.trans Kw22 kw26
  have Bw26_S := BL.keep Bw22_S kw26
  have zw26 := kw26.size
  clear l23 c24 c25 Bw22_S Kw22 kw26
  have l27 := Bw26_S.lt
  go_wp2_with fail
  go_ret
  exact ⟨rfl, Kw26⟩

end Go.Proofs.Ytnijlddmbemnoaa
