/- The law ObjectGaps. -/
import Derived.Test.YtnijlddmbemnoaaONil
import Derived.Test.YtnijlddmbemnoaaObj7
namespace Go.Proofs.Ytnijlddmbemnoaa
open Go.RowKit

theorem WalkR.det {T : Int → Th × Int} {z a : Int} {L L' : List Int} {e e' : Int} (h : WalkR T z a L e) (h' : WalkR T z a L' e') : L = L' ∧ e = e' := by
  induction h generalizing L' e' with
  | done h1 => cases h' with
    | done _ => exact ⟨rfl, rfl⟩
    | err k1 _ => omega
    | far k1 _ _ => omega
    | step k1 _ _ _ => omega
  | err h1 h2 => cases h' with
    | done k1 => omega
    | err k1 _ => exact ⟨rfl, rfl⟩
    | far k1 k2 _ => exact absurd k2 h2
    | step k1 k2 _ _ => exact absurd k2 h2
  | far h1 h2 h3 => cases h' with
    | done k1 => omega
    | err k1 k2 => exact absurd h2 k2
    | far k1 k2 _ => exact ⟨rfl, rfl⟩
    | step k1 k2 k3 _ => omega
  | step h1 h2 h3 h4 ih => cases h' with
    | done k1 => omega
    | err k1 k2 => exact absurd h2 k2
    | far k1 k2 k3 => omega
    | step k1 k2 k3 k4 =>
      obtain ⟨rfl, rfl⟩ := ih k4
      exact ⟨rfl, rfl⟩
theorem gaps_walk (q : Int) {g : Nat → Int} {hd : Hd} (h : atT 200 g 0 (fun _ => cl0) 5 = (⟨hd, 0, 0, q⟩, 0)) (hq : 1 ≤ q) {L : List Int} {x : Int} (hW : WalkR (atT 200 g 0 (fun _ => cl0)) (5 + q) 5 L x) (hc : hd.cls = 0 := by rfl) : L = [] ∧ x = 0 := by
  have hs := WalkR.step (T := atT 200 g 0 (fun _ => cl0)) (z := 5 + q) (a := 5) (L := []) (e := 0) (by omega) (by rw [h]) (by rw [h]; show q ≤ 5 + q - 5; omega) (by rw [h]; exact .done (Int.le_refl _))
  rw [h] at hs
  have hi : (Th.is ⟨hd, 0, 0, q⟩) = false := by unfold Th.is; rw [hc]; rfl
  rw [if_pos rfl] at hs
  dsimp only at hs
  rw [hi] at hs
  exact hW.det hs
theorem putF_self (f : Nat → Int) (k : Nat) (v : Int) : putF f k v k = v := if_pos rfl
theorem putF_ne {f : Nat → Int} {k j : Nat} {v : Int} (h : j ≠ k) : putF f k v j = f j := if_neg h
theorem raw_gap : rawH gapW = ⟨0, 0, 0, false, false, false⟩ := by kernel_rfl
theorem raw_gap1 : rawH gap1W = ⟨0, 0, 0, true, false, false⟩ := by kernel_rfl
theorem gapsF_one (j : Nat) (hj : j < 200 ∧ (j < 5 ∨ 6 < j ∨ 5 + (1 : Int) ≤ j)) (word : Int) : putF (fillF (fun _ => 0) (Int.toNat 0) (Int.toNat 200) word) (Int.toNat 5) gap1W j = word := by
  have e5 : Int.toNat 5 = 5 := rfl
  have e0 : Int.toNat 0 = 0 := rfl
  have e2 : Int.toNat 200 = 200 := rfl
  unfold putF fillF
  rw [e5, e0, e2, if_neg (by omega), if_pos (by omega)]
theorem gapsF_more (q : Int) (j : Nat) (hj : j < 200 ∧ (j < 5 ∨ 6 < j ∨ 5 + q ≤ j)) (word : Int) (hq : 1 < q := by omega) : putF (putF (fillF (fun _ => 0) (Int.toNat 0) (Int.toNat 200) word) (Int.toNat 5) gapW) (Int.toNat (5 + 1)) q j = word := by
  have e5 : Int.toNat 5 = 5 := rfl
  have e6 : Int.toNat (5 + 1) = 6 := rfl
  have e0 : Int.toNat 0 = 0 := rfl
  have e2 : Int.toNat 200 = 200 := rfl
  unfold putF fillF
  rw [e5, e0, e2, e6, if_neg (by omega), if_neg (by omega), if_pos (by omega)]
theorem gapsA_one (word : Int) : atT 200 (putF (fillF (fun _ => 0) (Int.toNat 0) (Int.toNat 200) word) (Int.toNat 5) gap1W) 0 (fun _ => cl0) 5 = (⟨⟨0, 0, 0, true, false, false⟩, 0, 0, 1⟩, 0) :=
  atT_one (hd := ⟨0, 0, 0, true, false, false⟩) (by decide) (by rw [putF_self, raw_gap1]; decide) (by rw [putF_self]; exact raw_gap1) rfl rfl
theorem gapsA_more (q : Int) (q1 : 1 < q) (q2 : q ≤ 100) (word : Int) : atT 200 (putF (putF (fillF (fun _ => 0) (Int.toNat 0) (Int.toNat 200) word) (Int.toNat 5) gapW) (Int.toNat (5 + 1)) q) 0 (fun _ => cl0) 5 = (⟨⟨0, 0, 0, false, false, false⟩, 0, 0, q⟩, 0) := by
  have e1 : putF (putF (fillF (fun _ => 0) (Int.toNat 0) (Int.toNat 200) word) (Int.toNat 5) gapW) (Int.toNat (5 + 1)) q (Int.toNat 5) = gapW := by
    rw [putF_ne (by decide), putF_self]
  refine atT_gap (hd := ⟨0, 0, 0, false, false, false⟩) (x := q) (by decide) (by rw [e1, raw_gap]; decide) (by rw [e1]; exact raw_gap) rfl rfl (by decide) (putF_self _ _ _) (by omega) (thB_true.2 ⟨by omega, by omega, by omega, by omega⟩)

set_option maxRecDepth 100000 in
set_option maxHeartbeats 4000000 in
theorem ogaps_one (s word : Int) (hs : 0 ≤ s ∧ s ≤ 255) (hq : 1 + s % 100 = 1) (w : World) : Calls Try.prog 6 #[.int .u8 s, .int .i64 word] w fun e w' => e = .returned (.bool true) ∧ Keeps w w' := by
  obtain ⟨s0, s1⟩ := hs
  have hz := zero_st
  have HN := Lib.hid (fun w' => cnew_yes none 0 0 (fun _ => ⟨rfl, rfl⟩) (fun _ => cl0) w' (fun h => absurd h (by omega)) (by omega) (fun j h => by omega))
  have HM := Lib.hid (fun w' => mnew_any 200 (by omega) w')
  have HQ := Lib.hid hq
  clear hq
  go_enter Try.func6, Try.ntmps6
  go_wp2_with fail
  have K0 := Touch.refl (fun _ => False) w
  refine Calls.mono (awake_any _) ?_
  rintro e w1 ⟨rfl, kw1⟩
  have Kw1 := Keeps.trans K0 kw1
  have zw1 := kw1.size
  clear K0 kw1
  go_wp2_with fail
  have q1 : 1 ≤ 1 + s % 100 := by omega
  have q2 : 1 + s % 100 ≤ 100 := by omega
  have hq := HQ.out
  clear HQ
  generalize 1 + s % 100 = q at *
  subst hq
  refine Calls.mono (HN.out _) ?_
  rintro e wa ⟨bt, A, cap, rfl, hT, hb, hA, k1⟩
  have Kwa := Keeps.trans Kw1 k1
  have zwa := k1.size
  clear Kw1
  have hbt := hT.head.lt
  have HT := Lib.hid hT
  have HA := Lib.hid hA
  clear hT hA
  go_wp2_with fail
  refine Calls.mono (HM.out _) ?_
  rintro e wb ⟨ba, bw, rfl, ha, ba1, hbw, k2⟩
  have Kwb := Keeps.trans Kwa k2
  have zwb := k2.size
  clear Kwa
  have hbwl := ha.lt2
  have S2 : St wb ba bw 200 (fun _ => 0) bt A 0 cap (fun _ => cl0) := ⟨ha, HT.out.keep k2, by omega, fun b off e => by have := (HA.out b off e).2; omega⟩
  have hbw0 : w.heap.size ≤ bw := by omega
  clear ha HT HA k1 k2 HN HM
  go_wp2_with fail
  refine Calls.mono (on_any _ _ _) ?_
  rintro e w2 ⟨rfl, kw2⟩
  have Kw2 := Keeps.trans Kwb kw2
  have zw2 := kw2.size
  have Sw2 := St.keep S2 kw2
  clear S2 Kwb kw2
  go_wp2_with fail
  refine named (fun W3 hW3 => ?_)
  have KW3 : Keeps w W3 := by rw [hW3]; exact (Kw2.alloc _)
  have BW3_S : BL W3 (w2.heap.size) 26 [.pointer (some ⟨ba, 0, none⟩), .pointer (some ⟨bt, 0, none⟩)] := by rw [hW3]; exact (BL.new1 _ _ _ [.pointer (some ⟨ba, 0, none⟩), .pointer (some ⟨bt, 0, none⟩)] _ (by simp) rfl)
  have zW3 : w2.heap.size + 1 ≤ W3.heap.size := by rw [hW3]; simp
  have SW3 := St.keep Sw2 (show Keeps w2 W3 by rw [hW3]; exact ((Touch.refl _ _).alloc _))
  clear Sw2 Kw2 hW3
  have l4 := BW3_S.lt
  refine Calls.mono (fill_at ba bw 200 _ _ SW3.ar 0 200 (by omega) (by omega) (by omega) word) ?_
  rintro e w5 ⟨rfl, aw5, ow5⟩
  have Kw5 := Keeps.new KW3 ow5 (by omega)
  have Sw5 := SW3.only aw5 ow5
  have Bw5_S := BL.touch BW3_S ow5 (by show ¬ (w2.heap.size = bw); omega)
  have zw5 := ow5.size
  clear aw5 ow5 KW3 SW3 BW3_S l4
  have lx := Bw5_S.lt
  have c6 : w5.cell? ⟨w2.heap.size, 0, none⟩ = some (.pointer (some ⟨ba, 0, none⟩)) := Bw5_S.c 0 _ rfl
  have c7 : w5.cell? ⟨w2.heap.size, 1, none⟩ = some (.pointer (some ⟨bt, 0, none⟩)) := Bw5_S.c 1 _ rfl
  go_wp2_with fail
  refine Calls.mono (gap_one ba bw 200 _ bt A 0 cap (fun _ => cl0) _ Sw5 5 1 rfl (by decide)) ?_
  rintro e w8 ⟨rfl, Sw8, ow8⟩
  have Kw8 := Keeps.new Kw5 ow8 (by have := hbw0; omega)
  have Bw8_S := BL.touch Bw5_S ow8 (by show ¬ (w2.heap.size = bw); omega)
  have zw8 := ow8.size
  clear lx c6 c7 Bw5_S Kw5 ow8 Sw5
  have l9 := Bw8_S.lt
  have c10 : w8.cell? ⟨w2.heap.size, 0, none⟩ = some (.pointer (some ⟨ba, 0, none⟩)) := Bw8_S.c 0 _ rfl
  have c11 : w8.cell? ⟨w2.heap.size, 1, none⟩ = some (.pointer (some ⟨bt, 0, none⟩)) := Bw8_S.c 1 _ rfl
  have HG := Lib.hid (fun j hj => gapsF_one j hj word)
  have HAT := Lib.hid (gapsA_one word)
  generalize putF (fillF (fun _ => 0) (Int.toNat 0) (Int.toNat 200) word) (Int.toNat 5) gap1W = g at *
  have HOB := Lib.hid (show objP (atT 200 g 0 (fun _ => cl0) 5) = (th0, 5) by rw [HAT.out]; rfl)
  go_wp2_with fail
  refine Calls.mono (size_any ba bw 200 _ bt A 0 cap (fun _ => cl0) _ Sw8 5) ?_
  rintro e w12 ⟨rfl, kw12⟩
  have Kw12 := Keeps.trans Kw8 kw12
  have Bw12_S := BL.keep Bw8_S kw12
  have zw12 := kw12.size
  have Sw12 := St.keep Sw8 kw12
  clear l9 c10 c11 Sw8 Bw8_S Kw8 kw12
  have l13 := Bw12_S.lt
  have c14 : w12.cell? ⟨w2.heap.size, 0, none⟩ = some (.pointer (some ⟨ba, 0, none⟩)) := Bw12_S.c 0 _ rfl
  have c15 : w12.cell? ⟨w2.heap.size, 1, none⟩ = some (.pointer (some ⟨bt, 0, none⟩)) := Bw12_S.c 1 _ rfl
  rw [HAT.out]
  go_wp2_with fail
  refine Calls.mono (oshape_any ba bw 200 _ bt A 0 cap (fun _ => cl0) _ Sw12 5) ?_
  rintro e w16 ⟨rfl, kw16⟩
  have Kw16 := Keeps.trans Kw12 kw16
  have Bw16_S := BL.keep Bw12_S kw16
  have zw16 := kw16.size
  have Sw16 := St.keep Sw12 kw16
  clear l13 c14 c15 Sw12 Bw12_S Kw12 kw16
  have l17 := Bw16_S.lt
  have c18 : w16.cell? ⟨w2.heap.size, 0, none⟩ = some (.pointer (some ⟨ba, 0, none⟩)) := Bw16_S.c 0 _ rfl
  have c19 : w16.cell? ⟨w2.heap.size, 1, none⟩ = some (.pointer (some ⟨bt, 0, none⟩)) := Bw16_S.c 1 _ rfl
  rw [HOB.out]
  go_wp2_with fail
  have HW := Lib.hid (walk_any ba bw 200 _ bt A 0 cap (fun _ => cl0) _ Sw16 5 (5 + 1) ⟨by omega, by omega⟩)
  refine Calls.mono (HW.out) ?_
  rintro e wz ⟨v, L, x, rfl, hW, hO, k9⟩
  have Kwz := Keeps.trans Kw16 k9
  have Bwz_S := BL.keep Bw16_S k9
  have zwz := k9.size
  have Swz := St.keep Sw16 k9
  clear l17 c18 c19 Sw16 Bw16_S Kw16
  have l20 := Bwz_S.lt
  obtain ⟨rfl, rfl⟩ : L = [] ∧ x = 0 := gaps_walk 1 HAT.out (by omega) hW
  obtain ⟨ad, cp, rfl⟩ := hO.form
  clear hW hO HW k9
  go_wp2_with fail
  go_loop [64] (fun i => ∃ k : Nat, k ≤ 200 ∧ i = .int .i64 k) (fun i => 200 - (intOf i).toNat)
  case atStart => exact ⟨0, Nat.zero_le _, rfl⟩
  case round =>
    obtain ⟨k, hk, rfl⟩ := hrel
    by_cases hlt : k < 200
    ·
      have hlt' : (k : Int) < 200 := by omega
      have hL := load_yes ba bw 200 g _ Swz.ar k hlt
      by_cases hc : k < 5 ∨ 6 < k ∨ 5 + 1 ≤ (k : Int)
      ·
        rw [HG.out k ⟨hlt, hc⟩] at hL
        have HL := Lib.hid hL
        clear hL
        go_wp2_with (refine Calls.mono HL.out ?_; rintro e w8 ⟨rfl, rfl⟩)
        all_goals
          go_round
          case rel => exact ⟨k + 1, by omega, by go_num⟩
          case measure => simp [intOf]; omega
      ·
        have HL := Lib.hid hL
        clear hL
        have c1 : ¬ ((k : Int) < 5) := by omega
        have c2 : ¬ ((6 : Int) < (k : Int)) := by omega
        have c3 : ¬ (5 + 1 ≤ (k : Int)) := by omega
        clear hc
        go_wp2_with (refine Calls.mono HL.out ?_; rintro e w8 ⟨rfl, rfl⟩)
        go_round
        case rel => exact ⟨k + 1, by omega, by go_num⟩
        case measure => simp [intOf]; omega
    ·
      have : k = 200 := by omega
      subst this
      go_wp2_with fail
      go_ret
      exact ⟨rfl, Kwz⟩

set_option maxRecDepth 100000 in
set_option maxHeartbeats 4000000 in
theorem ogaps_more (s word : Int) (hs : 0 ≤ s ∧ s ≤ 255) (hq : 1 + s % 100 ≠ 1) (w : World) : Calls Try.prog 6 #[.int .u8 s, .int .i64 word] w fun e w' => e = .returned (.bool true) ∧ Keeps w w' := by
  obtain ⟨s0, s1⟩ := hs
  have hz := zero_st
  have HN := Lib.hid (fun w' => cnew_yes none 0 0 (fun _ => ⟨rfl, rfl⟩) (fun _ => cl0) w' (fun h => absurd h (by omega)) (by omega) (fun j h => by omega))
  have HM := Lib.hid (fun w' => mnew_any 200 (by omega) w')
  have HQ := Lib.hid hq
  clear hq
  go_enter Try.func6, Try.ntmps6
  go_wp2_with fail
  have K0 := Touch.refl (fun _ => False) w
  refine Calls.mono (awake_any _) ?_
  rintro e w1 ⟨rfl, kw1⟩
  have Kw1 := Keeps.trans K0 kw1
  have zw1 := kw1.size
  clear K0 kw1
  go_wp2_with fail
  have q1 : 1 ≤ 1 + s % 100 := by omega
  have q2 : 1 + s % 100 ≤ 100 := by omega
  have hq := HQ.out
  clear HQ
  generalize 1 + s % 100 = q at *
  have q3 : 1 < q := by omega
  clear hq
  refine Calls.mono (HN.out _) ?_
  rintro e wa ⟨bt, A, cap, rfl, hT, hb, hA, k1⟩
  have Kwa := Keeps.trans Kw1 k1
  have zwa := k1.size
  clear Kw1
  have hbt := hT.head.lt
  have HT := Lib.hid hT
  have HA := Lib.hid hA
  clear hT hA
  go_wp2_with fail
  refine Calls.mono (HM.out _) ?_
  rintro e wb ⟨ba, bw, rfl, ha, ba1, hbw, k2⟩
  have Kwb := Keeps.trans Kwa k2
  have zwb := k2.size
  clear Kwa
  have hbwl := ha.lt2
  have S2 : St wb ba bw 200 (fun _ => 0) bt A 0 cap (fun _ => cl0) := ⟨ha, HT.out.keep k2, by omega, fun b off e => by have := (HA.out b off e).2; omega⟩
  have hbw0 : w.heap.size ≤ bw := by omega
  clear ha HT HA k1 k2 HN HM
  go_wp2_with fail
  refine Calls.mono (on_any _ _ _) ?_
  rintro e w2 ⟨rfl, kw2⟩
  have Kw2 := Keeps.trans Kwb kw2
  have zw2 := kw2.size
  have Sw2 := St.keep S2 kw2
  clear S2 Kwb kw2
  go_wp2_with fail
  refine named (fun W3 hW3 => ?_)
  have KW3 : Keeps w W3 := by rw [hW3]; exact (Kw2.alloc _)
  have BW3_S : BL W3 (w2.heap.size) 26 [.pointer (some ⟨ba, 0, none⟩), .pointer (some ⟨bt, 0, none⟩)] := by rw [hW3]; exact (BL.new1 _ _ _ [.pointer (some ⟨ba, 0, none⟩), .pointer (some ⟨bt, 0, none⟩)] _ (by simp) rfl)
  have zW3 : w2.heap.size + 1 ≤ W3.heap.size := by rw [hW3]; simp
  have SW3 := St.keep Sw2 (show Keeps w2 W3 by rw [hW3]; exact ((Touch.refl _ _).alloc _))
  clear Sw2 Kw2 hW3
  have l4 := BW3_S.lt
  refine Calls.mono (fill_at ba bw 200 _ _ SW3.ar 0 200 (by omega) (by omega) (by omega) word) ?_
  rintro e w5 ⟨rfl, aw5, ow5⟩
  have Kw5 := Keeps.new KW3 ow5 (by omega)
  have Sw5 := SW3.only aw5 ow5
  have Bw5_S := BL.touch BW3_S ow5 (by show ¬ (w2.heap.size = bw); omega)
  have zw5 := ow5.size
  clear aw5 ow5 KW3 SW3 BW3_S l4
  have lx := Bw5_S.lt
  have c6 : w5.cell? ⟨w2.heap.size, 0, none⟩ = some (.pointer (some ⟨ba, 0, none⟩)) := Bw5_S.c 0 _ rfl
  have c7 : w5.cell? ⟨w2.heap.size, 1, none⟩ = some (.pointer (some ⟨bt, 0, none⟩)) := Bw5_S.c 1 _ rfl
  go_wp2_with fail
  refine Calls.mono (gap_more ba bw 200 _ bt A 0 cap (fun _ => cl0) _ Sw5 5 q q3 (thB_true.2 ⟨by omega, by omega, by omega, by omega⟩)) ?_
  rintro e w8 ⟨rfl, Sw8, ow8⟩
  have Kw8 := Keeps.new Kw5 ow8 (by have := hbw0; omega)
  have Bw8_S := BL.touch Bw5_S ow8 (by show ¬ (w2.heap.size = bw); omega)
  have zw8 := ow8.size
  clear lx c6 c7 Bw5_S Kw5 ow8 Sw5
  have l9 := Bw8_S.lt
  have c10 : w8.cell? ⟨w2.heap.size, 0, none⟩ = some (.pointer (some ⟨ba, 0, none⟩)) := Bw8_S.c 0 _ rfl
  have c11 : w8.cell? ⟨w2.heap.size, 1, none⟩ = some (.pointer (some ⟨bt, 0, none⟩)) := Bw8_S.c 1 _ rfl
  have HG := Lib.hid (fun j hj => gapsF_more q j hj word)
  have HAT := Lib.hid (gapsA_more q q3 q2 word)
  generalize putF (putF (fillF (fun _ => 0) (Int.toNat 0) (Int.toNat 200) word) (Int.toNat 5) gapW) (Int.toNat (5 + 1)) q = g at *
  have HOB := Lib.hid (show objP (atT 200 g 0 (fun _ => cl0) 5) = (th0, 5) by rw [HAT.out]; rfl)
  go_wp2_with fail
  refine Calls.mono (size_any ba bw 200 _ bt A 0 cap (fun _ => cl0) _ Sw8 5) ?_
  rintro e w12 ⟨rfl, kw12⟩
  have Kw12 := Keeps.trans Kw8 kw12
  have Bw12_S := BL.keep Bw8_S kw12
  have zw12 := kw12.size
  have Sw12 := St.keep Sw8 kw12
  clear l9 c10 c11 Sw8 Bw8_S Kw8 kw12
  have l13 := Bw12_S.lt
  have c14 : w12.cell? ⟨w2.heap.size, 0, none⟩ = some (.pointer (some ⟨ba, 0, none⟩)) := Bw12_S.c 0 _ rfl
  have c15 : w12.cell? ⟨w2.heap.size, 1, none⟩ = some (.pointer (some ⟨bt, 0, none⟩)) := Bw12_S.c 1 _ rfl
  rw [HAT.out]
  go_wp2_with fail
  refine Calls.mono (oshape_any ba bw 200 _ bt A 0 cap (fun _ => cl0) _ Sw12 5) ?_
  rintro e w16 ⟨rfl, kw16⟩
  have Kw16 := Keeps.trans Kw12 kw16
  have Bw16_S := BL.keep Bw12_S kw16
  have zw16 := kw16.size
  have Sw16 := St.keep Sw12 kw16
  clear l13 c14 c15 Sw12 Bw12_S Kw12 kw16
  have l17 := Bw16_S.lt
  have c18 : w16.cell? ⟨w2.heap.size, 0, none⟩ = some (.pointer (some ⟨ba, 0, none⟩)) := Bw16_S.c 0 _ rfl
  have c19 : w16.cell? ⟨w2.heap.size, 1, none⟩ = some (.pointer (some ⟨bt, 0, none⟩)) := Bw16_S.c 1 _ rfl
  rw [HOB.out]
  go_wp2_with fail
  have HW := Lib.hid (walk_any ba bw 200 _ bt A 0 cap (fun _ => cl0) _ Sw16 5 (5 + q) ⟨by omega, by omega⟩)
  refine Calls.mono (HW.out) ?_
  rintro e wz ⟨v, L, x, rfl, hW, hO, k9⟩
  have Kwz := Keeps.trans Kw16 k9
  have Bwz_S := BL.keep Bw16_S k9
  have zwz := k9.size
  have Swz := St.keep Sw16 k9
  clear l17 c18 c19 Sw16 Bw16_S Kw16
  have l20 := Bwz_S.lt
  obtain ⟨rfl, rfl⟩ : L = [] ∧ x = 0 := gaps_walk q HAT.out (by omega) hW
  obtain ⟨ad, cp, rfl⟩ := hO.form
  clear hW hO HW k9
  go_wp2_with fail
  go_loop [64] (fun i => ∃ k : Nat, k ≤ 200 ∧ i = .int .i64 k) (fun i => 200 - (intOf i).toNat)
  case atStart => exact ⟨0, Nat.zero_le _, rfl⟩
  case round =>
    obtain ⟨k, hk, rfl⟩ := hrel
    by_cases hlt : k < 200
    ·
      have hlt' : (k : Int) < 200 := by omega
      have hL := load_yes ba bw 200 g _ Swz.ar k hlt
      by_cases hc : k < 5 ∨ 6 < k ∨ 5 + q ≤ (k : Int)
      ·
        rw [HG.out k ⟨hlt, hc⟩] at hL
        have HL := Lib.hid hL
        clear hL
        go_wp2_with (refine Calls.mono HL.out ?_; rintro e w8 ⟨rfl, rfl⟩)
        all_goals
          go_round
          case rel => exact ⟨k + 1, by omega, by go_num⟩
          case measure => simp [intOf]; omega
      ·
        have HL := Lib.hid hL
        clear hL
        have c1 : ¬ ((k : Int) < 5) := by omega
        have c2 : ¬ ((6 : Int) < (k : Int)) := by omega
        have c3 : ¬ (5 + q ≤ (k : Int)) := by omega
        clear hc
        go_wp2_with (refine Calls.mono HL.out ?_; rintro e w8 ⟨rfl, rfl⟩)
        go_round
        case rel => exact ⟨k + 1, by omega, by go_num⟩
        case measure => simp [intOf]; omega
    ·
      have : k = 200 := by omega
      subst this
      go_wp2_with fail
      go_ret
      exact ⟨rfl, Kwz⟩

theorem ogaps_walk (s word : Int) (hs : 0 ≤ s ∧ s ≤ 255) (w : World) : Calls Try.prog 6 #[.int .u8 s, .int .i64 word] w fun e w' => e = .returned (.bool true) ∧ Keeps w w' := by
  by_cases h : 1 + s % 100 = 1
  · exact ogaps_one s word hs h w
  · exact ogaps_more s word hs h w


end Go.Proofs.Ytnijlddmbemnoaa
