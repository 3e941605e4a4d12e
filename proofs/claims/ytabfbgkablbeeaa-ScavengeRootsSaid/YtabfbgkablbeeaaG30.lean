/- Layer 15, scavenge: right. -/
import Derived.Test.YtabfbgkablbeeaaG15
import Derived.Test.YtabfbgkablbeeaaG23
import Derived.WalkMore
import Derived.Deep.LoopGhost
import Derived.Test.YtabfbgkablbeeaaG24
import Derived.BigQuiet
set_option linter.all false

namespace Go.Proofs.Ytabfbgkablbeeaa
open Go.RowKit

theorem used_any (s : Sp) (w : World) (h : rightB s = true) : Calls Try.prog 8 #[agg s] w fun e w' => e = .returned (.int .i64 (s.t - s.f)) ∧ Keeps w w' := by
  obtain ⟨q1, q2, q3, q4⟩ := (rightB_iff s).1 h
  have HR := Lib.hid (fun w => right_any s w)
  obtain ⟨f, t, en⟩ := s
  unfold agg at *
  rw [h] at HR
  clear h
  dsimp only at *
  go_enter Try.func8, Try.ntmps8
  go_wp2_with fail
  have hB : Blk (w.alloc (.cells #[.int .i64 f, .int .i64 t, .int .i64 en] 36)) w.heap.size 36 3 (spF fun _ => ⟨f, t, en⟩) :=
    Blk.made w 3 _ _ _ rfl (fun j hj => by rcases (by omega : j = 0 ∨ j = 1 ∨ j = 2) with rfl | rfl | rfl <;> rfl)
  refine (HR.out _).mono ?_
  rintro e w1 ⟨rfl, k1⟩
  have hB1 := Blk.touch hB k1 (fun h => h)
  have c0 : w1.cell? ⟨w.heap.size, 0, none⟩ = some (.int .i64 f) := hB1.cell (j := 0) (by omega)
  have c1 : w1.cell? ⟨w.heap.size, 1, none⟩ = some (.int .i64 t) := hB1.cell (j := 1) (by omega)
  go_wp2_with fail
  go_ret
  exact ⟨by go_num, Keeps.trans ((Touch.refl _ w).alloc _) k1⟩
theorem zero_spc (w : World) : (zeroValue 36).run Try.prog w = .ok (.agg #[.int .i64 0, .int .i64 0, .int .i64 0]) w := by kernel_rfl
theorem snew_yes (fr z : Int) (w : World) (h0 : 0 ≤ fr) (h1 : 0 ≤ z) (h2 : fr ≤ 4096) (h3 : z ≤ 4096 - fr) : Calls Try.prog 37 #[.int .i64 fr, .int .i64 z] w fun e w' => e = .returned (.tuple #[.agg #[.int .i64 fr, .int .i64 fr, .int .i64 (fr + z)], .int .i64 0]) ∧ Keeps w w' := by
  have hz := zero_spc
  have n1 : ¬ fr < 0 := by omega
  have n2 : ¬ z < 0 := by omega
  have n3 : ¬ 4096 < fr := by omega
  have g1 : IntKind.i64.wrap (4096 - fr) = 4096 - fr := IntWalk.i64_in _ ⟨by omega, by omega⟩
  have n4 : ¬ 4096 - fr < z := by omega
  have g2 : IntKind.i64.wrap (fr + z) = fr + z := IntWalk.i64_in _ ⟨by omega, by omega⟩
  go_enter Try.func37, Try.ntmps37
  go_wp2_with fail
  go_returns
  exact ⟨rfl, (Touch.refl _ w).alloc _⟩
/-- Where the k-th begins. -/
def offs (fr : Int) (Z : Nat → Int) : Nat → Int
  | 0 => fr
  | k + 1 => offs fr Z k + Z k
def splF (fr : Int) (Z : Nat → Int) : Nat → Sp := fun k => ⟨offs fr Z k, offs fr Z k, offs fr Z (k + 1)⟩
theorem offs_mono {fr : Int} {Z : Nat → Int} {n : Nat} (hZ : ∀ k, k < n → 0 ≤ Z k) : ∀ d k, k + d ≤ n → offs fr Z k ≤ offs fr Z (k + d)
  | 0, _, _ => Int.le_refl _
  | d + 1, k, h => by
    have h1 := offs_mono (fr := fr) hZ d k (by omega)
    have h2 := hZ (k + d) (by omega)
    show offs fr Z k ≤ offs fr Z (k + d) + Z (k + d)
    omega
set_option maxHeartbeats 1000000 in
set_option maxRecDepth 100000 in
theorem split_yes (fr : Int) (A : Option Addr) (n cap : Nat) (Z : Nat → Int) (w : World) (hr : Rd w A n (intF .i64 Z)) (hn : n ≤ 1000) (hZ : ∀ k, k < n → 0 ≤ Z k) (h0 : 0 ≤ fr) (h1 : offs fr Z n ≤ 4096) :
    Calls Try.prog 12 #[.int .i64 fr, .slice A n cap] w fun e w' => ∃ ad cp, e = .returned (.tuple #[.slice ad n cp, .int .i64 0]) ∧ OwnSp 36 w' w.heap.size (.slice ad n cp) (splF fr Z) n ∧ Keeps w w' := by
  have HB := Lib.hid (show ∀ k, k < n → 0 ≤ offs fr Z k ∧ 0 ≤ Z k ∧ offs fr Z k ≤ 4096 ∧ Z k ≤ 4096 - offs fr Z k from fun k hk => by
    have a := offs_mono (fr := fr) hZ (n - (k + 1)) (k + 1) (by omega)
    have b := offs_mono (fr := fr) hZ k 0 (by omega)
    rw [show k + 1 + (n - (k + 1)) = n by omega] at a
    rw [Nat.zero_add] at b
    have c := hZ k hk
    have d : offs fr Z (k + 1) = offs fr Z k + Z k := rfl
    have e : offs fr Z 0 = fr := rfl
    omega)
  clear hZ h0 h1
  go_enter Try.func12, Try.ntmps12
  go_wp2_with fail
  go_loopw [0, 6, 13] (fun f v i wr => ∃ k : Nat, k ≤ n ∧ f = .int .i64 (offs fr Z k) ∧ i = .int .i64 k ∧ OwnSp 36 wr w.heap.size v (splF fr Z) k ∧ Keeps w wr) (fun _ _ i _ => n - (intOf i).toNat)
  case atStart => exact ⟨0, Nat.zero_le _, rfl, rfl, OwnSp.nil_ _ _ _ _, Touch.refl _ _⟩
  case round =>
    obtain ⟨k, hk, rfl, rfl, hown, K⟩ := hrel
    have HO := Lib.hid hown
    by_cases hlt : k < n
    · obtain ⟨b, off, rfl, d0⟩ := (hr.keep K).one hlt
      have d1 : wr.cell? ⟨b, off + k, none⟩ = some (.int .i64 (Z k)) := d0
      obtain ⟨b0, b1, b2, b3⟩ := HB.out k hlt
      have HS := Lib.hid (show splF fr Z k = ⟨offs fr Z k, offs fr Z k, offs fr Z k + Z k⟩ from rfl)
      have HS1 := Lib.hid (show offs fr Z (k + 1) = offs fr Z k + Z k from rfl)
      clear d0 hown
      have hk' : k ≤ 1000000 := by omega
      generalize offs fr Z k = x at *
      generalize Z k = y at *
      go_wp2_with fail
      refine Calls.mono (snew_yes x y _ b0 b1 b2 b3) ?_
      rintro e w2 ⟨rfl, k2⟩
      have hsz := K.size
      have hs2 := k2.size
      have HO2 := Lib.hid ((HO.out.touch k2 (fun _ _ h => h)).touch ((Touch.refl (fun _ => False) w2).alloc (.cells #[.int .i64 x, .int .i64 x, .int .i64 (x + y)] 36)) (fun _ _ h => h))
      have hm := BL.new1 w2 36 _ [.int .i64 x, .int .i64 x, .int .i64 (x + y)] w2.heap.size rfl rfl
      have K3 : Keeps w (w2.alloc (.cells #[.int .i64 x, .int .i64 x, .int .i64 (x + y)] 36)) := Touch.alloc (Keeps.trans K k2) _
      have hm2 := BL.new1 (w2.alloc (.cells #[.int .i64 x, .int .i64 x, .int .i64 (x + y)] 36)) 36 _ [.int .i64 x, .int .i64 x, .int .i64 (x + y)] (w2.heap.size + 1) (by simp) rfl
      have e0 := hm2.c 0 _ rfl
      have e1 := hm2.c 1 _ rfl
      have e2 := hm2.c 2 _ rfl
      clear hr
      go_wp2_with (at_builtin; refine app_sp Try.underlying57 info_sp rfl (.tmp 26) (.tmp 28) rfl w.heap.size _ (splF fr Z) k (World.ownsRow.alloc HO2.out _) rfl (w2.heap.size + 1) rfl (by rw [HS.out]; exact e0) (by rw [HS.out]; exact e1) (by rw [HS.out]; exact e2) hk' (by simp; omega) ?_)
      intro v' w5 hown1 g1 a1
      have LT := HO2.out.lt
      have K5 := Touch.grown (Touch.alloc K3 (.cells #[.int .i64 x, .int .i64 x, .int .i64 (x + y)] 36)) g1 (fun q e hq => by have := (LT q e).1; omega)
      have hm5 := BL.grown (BL.alloc hm _) g1 (fun e => by have := (HO.out.lt _ e).2; omega)
      have c5 := hm5.c 2 _ rfl
      have HO5 := Lib.hid hown1
      clear a1 g1 hown1 LT e0 e1 e2 hm hm2
      go_wp2_with fail
      go_roundw
      case rel => exact ⟨k + 1, by omega, by rw [HS1.out], by go_num, HO5.out, K5⟩
      case measure => simp [intOf]; omega
    · obtain rfl : k = n := by omega
      obtain ⟨ad, cp, hv⟩ := hown.form
      subst hv
      clear hown
      go_wp2_with fail
      go_returns
      exact ⟨ad, cp, rfl, HO.out, K⟩

end Go.Proofs.Ytabfbgkablbeeaa

namespace Go.Proofs.Ytabfbgkablbeeaa
open Go.RowKit

def yL (y : Nat → Sp) (thr : Int) : List Value := [.int .i64 (y 0).f, .int .i64 (y 0).t, .int .i64 (y 0).e, .int .i64 (y 1).f, .int .i64 (y 1).t, .int .i64 (y 1).e, .int .i64 (y 2).f, .int .i64 (y 2).t, .int .i64 (y 2).e, .int .i64 (y 3).f, .int .i64 (y 3).t, .int .i64 (y 3).e, .int .i64 thr]
/-- Old, Eden, From, To can be so. -/
structure RightY (n : Nat) (y : Nat → Sp) (thr : Int) : Prop where
  one : ∀ i, i < 4 → rightB (y i) = true ∧ 1 ≤ (y i).f ∧ (y i).e ≤ n
  two : ∀ i j, j < i → i < 4 → (y i).e ≤ (y j).f ∨ (y j).e ≤ (y i).f
  used : (y 3).t = (y 3).f
  room : (y 3).e - (y 3).t = (y 2).e - (y 2).f
  th : 0 ≤ thr ∧ thr ≤ 7
theorem rd_four {w : World} {b : Nat} {T : TypeId} {y : Nat → Sp} (h : BL w b T [.int .i64 (y 0).f, .int .i64 (y 0).t, .int .i64 (y 0).e, .int .i64 (y 1).f, .int .i64 (y 1).t, .int .i64 (y 1).e, .int .i64 (y 2).f, .int .i64 (y 2).t, .int .i64 (y 2).e, .int .i64 (y 3).f, .int .i64 (y 3).t, .int .i64 (y 3).e]) : Rd w (some ⟨b, 0, none⟩) (4 * 3) (spF y) := fun _ => ⟨b, 0, rfl, h.lt, fun j hj => by
  rw [Nat.zero_add]
  rcases (by omega : j = 0 ∨ j = 1 ∨ j = 2 ∨ j = 3 ∨ j = 4 ∨ j = 5 ∨ j = 6 ∨ j = 7 ∨ j = 8 ∨ j = 9 ∨ j = 10 ∨ j = 11) with rfl | rfl | rfl | rfl | rfl | rfl | rfl | rfl | rfl | rfl | rfl | rfl <;> exact h.c _ _ rfl⟩
set_option maxHeartbeats 2000000 in
theorem right_yes (n : Nat) (hn : n ≤ 4096) (y : Nat → Sp) (thr : Int) (h : RightY n y thr) (w : World) :
    Calls Try.prog 21 #[.agg #[.int .i64 (y 0).f, .int .i64 (y 0).t, .int .i64 (y 0).e, .int .i64 (y 1).f, .int .i64 (y 1).t, .int .i64 (y 1).e, .int .i64 (y 2).f, .int .i64 (y 2).t, .int .i64 (y 2).e, .int .i64 (y 3).f, .int .i64 (y 3).t, .int .i64 (y 3).e, .int .i64 thr], .int .i64 (n : Int)] w fun e w' => e = .returned (.bool true) ∧ Keeps w w' := by
  have HR := Lib.hid (show ∀ i, i < 4 → ∀ w', Calls Try.prog 31 #[.agg #[.int .i64 (y i).f, .int .i64 (y i).t, .int .i64 (y i).e]] w' fun e w2 => e = .returned (.bool true) ∧ Keeps w' w2 from fun i hi w' => by
    have := right_any (y i) w'
    rw [(h.one i hi).1] at this
    exact this)
  have H1 := Lib.hid h.one
  have H2 := Lib.hid h.two
  have HU := Lib.hid (show ∀ w', Calls Try.prog 8 #[.agg #[.int .i64 (y 3).f, .int .i64 (y 3).t, .int .i64 (y 3).e]] w' fun e w2 => e = .returned (.int .i64 0) ∧ Keeps w' w2 from fun w' => by
    have := used_any (y 3) w' (h.one 3 (by omega)).1
    rw [show (y 3).t - (y 3).f = 0 by have := h.used; omega] at this
    exact this)
  have HRo := Lib.hid (show ∀ w', Calls Try.prog 50 #[.agg #[.int .i64 (y 3).f, .int .i64 (y 3).t, .int .i64 (y 3).e]] w' fun e w2 => e = .returned (.int .i64 ((y 2).e - (y 2).f)) ∧ Keeps w' w2 from fun w' => by
    have := room_any (y 3) w' (h.one 3 (by omega)).1
    rw [h.room] at this
    exact this)
  have hb2 := (rightB_iff _).1 (h.one 2 (by omega)).1
  have g2 : IntKind.i64.wrap ((y 2).e - (y 2).f) = (y 2).e - (y 2).f := IntWalk.i64_in _ ⟨by omega, by omega⟩
  obtain ⟨th0, th1⟩ := h.th
  have t0 : thr ≥ 0 := th0
  clear h hb2
  go_enter Try.func21, Try.ntmps21
  go_upto_region 2 with fail
  refine named_code (fun w1 hW1 => ?_)
  have K1 : Keeps w w1 := by rw [hW1]; exact ((Touch.refl _ w).alloc _).alloc _
  have BY : BL w1 w.heap.size 38 [.int .i64 (y 0).f, .int .i64 (y 0).t, .int .i64 (y 0).e, .int .i64 (y 1).f, .int .i64 (y 1).t, .int .i64 (y 1).e, .int .i64 (y 2).f, .int .i64 (y 2).t, .int .i64 (y 2).e, .int .i64 (y 3).f, .int .i64 (y 3).t, .int .i64 (y 3).e, .int .i64 thr] := by rw [hW1]; exact (BL.new1 w 38 _ [.int .i64 (y 0).f, .int .i64 (y 0).t, .int .i64 (y 0).e, .int .i64 (y 1).f, .int .i64 (y 1).t, .int .i64 (y 1).e, .int .i64 (y 2).f, .int .i64 (y 2).t, .int .i64 (y 2).e, .int .i64 (y 3).f, .int .i64 (y 3).t, .int .i64 (y 3).e, .int .i64 thr] _ rfl rfl).alloc _
  have BS : BL w1 (w.heap.size + 1) 36 [.int .i64 (y 0).f, .int .i64 (y 0).t, .int .i64 (y 0).e, .int .i64 (y 1).f, .int .i64 (y 1).t, .int .i64 (y 1).e, .int .i64 (y 2).f, .int .i64 (y 2).t, .int .i64 (y 2).e, .int .i64 (y 3).f, .int .i64 (y 3).t, .int .i64 (y 3).e] := by rw [hW1]; exact BL.new1 _ 36 _ [.int .i64 (y 0).f, .int .i64 (y 0).t, .int .i64 (y 0).e, .int .i64 (y 1).f, .int .i64 (y 1).t, .int .i64 (y 1).e, .int .i64 (y 2).f, .int .i64 (y 2).t, .int .i64 (y 2).e, .int .i64 (y 3).f, .int .i64 (y 3).t, .int .i64 (y 3).e] _ (by simp) rfl
  have hL := rd_four BS
  clear hW1 BS
  go_wp2_with fail
  go_loopw [21] (fun i wr => ∃ k : Nat, k ≤ 4 ∧ i = .int .i64 k ∧ Keeps w1 wr) (fun i _ => 4 - (intOf i).toNat)
  case atStart => exact ⟨0, by omega, rfl, Touch.refl _ _⟩
  case round =>
    obtain ⟨wo, rfl⟩ : ∃ wo : World, wo = wr := ⟨_, rfl⟩
    obtain ⟨k, hk, rfl, Kr⟩ := hrel
    have zr := Kr.size
    by_cases hlt : k < 4
    · obtain ⟨b, off, he, d0, d1, d2⟩ := (hL.keep Kr).sp hlt
      simp only [Option.some.injEq, Addr.mk.injEq, and_true] at he
      obtain ⟨rfl, rfl⟩ := he
      rw [Nat.zero_add] at d0 d1 d2
      have hkI : (k : Int) < 4 := by omega
      have hk0 : (0 : Int) ≤ k := by omega
      have hk4 : (k : Int) ≤ 4 := by omega
      obtain ⟨_, f1, f2⟩ := H1.out k hlt
      have e1 : decide ((y k).f < 1) = false := decide_eq_false (by omega)
      have e2 : decide ((y k).e > (n : Int)) = false := decide_eq_false (by omega)
      have e3 : decide ((n : Int) < (y k).e) = false := decide_eq_false (by omega)
      clear f1 f2
      go_wp2_with fail
      refine named (fun W1 hW1 => ?_)
      have k1 : Keeps wo W1 := by rw [hW1]; exact (Touch.refl _ _).alloc _
      have b1 : BL W1 wo.heap.size 36 [.int .i64 (y k).f, .int .i64 (y k).t, .int .i64 (y k).e] := by rw [hW1]; exact BL.new1 _ _ _ [.int .i64 (y k).f, .int .i64 (y k).t, .int .i64 (y k).e] _ (by simp) rfl
      clear hW1 d0 d1 d2
      refine Calls.mono (HR.out k hlt _) ?_
      rintro e w2 ⟨rfl, k2⟩
      have b2 := b1.keep k2
      have c0 := b2.c 0 _ rfl
      have c1 := b2.c 1 _ rfl
      have c2 := b2.c 2 _ rfl
      have z2 := (Keeps.trans k1 k2).size
      go_wp2_with fail
      go_loopw [44] (fun i wr => ∃ j : Nat, j ≤ k ∧ i = .int .i64 j ∧ Keeps w2 wr) (fun i _ => k - (intOf i).toNat)
      case atStart => exact ⟨0, by omega, rfl, Touch.refl _ _⟩
      case round =>
        obtain ⟨w3, rfl⟩ : ∃ w3 : World, w3 = wr := ⟨_, rfl⟩
        obtain ⟨j, hj, rfl, k3⟩ := hrel
        have K3 := Keeps.trans Kr (Keeps.trans (Keeps.trans k1 k2) k3)
        have z3 := K3.size
        by_cases hlt2 : j < k
        · obtain ⟨b, off, he, d0, d1, d2⟩ := (hL.keep K3).sp (show j < 4 by omega)
          simp only [Option.some.injEq, Addr.mk.injEq, and_true] at he
          obtain ⟨rfl, rfl⟩ := he
          rw [Nat.zero_add] at d0 d1 d2
          have hjI : (j : Int) < k := by omega
          have h2 := H2.out k j hlt2 hlt
          obtain ⟨mx, hmx⟩ : ∃ mx, mx = (if (y j).f > (y k).f then (y j).f else (y k).f) := ⟨_, rfl⟩
          obtain ⟨mn, hmn⟩ : ∃ mn, mn = (if (y j).e < (y k).e then (y j).e else (y k).e) := ⟨_, rfl⟩
          have m1 : ∀ ts t w, (Builtin.max_ ts t #[.int .i64 (y k).f, .int .i64 (y j).f]).run Try.prog w = .ok (.int .i64 mx) w := fun ts t w => by
            rw [run_max_int2, hmx]
          have m2 : ∀ ts t w, (Builtin.min_ ts t #[.int .i64 (y k).e, .int .i64 (y j).e]).run Try.prog w = .ok (.int .i64 mn) w := fun ts t w => by
            rw [run_min_int2, hmn]
          have hc : decide (mx < mn) = false := decide_eq_false (by rw [hmx, hmn]; split <;> split <;> omega)
          have s0 := cell_keep c0 k3
          have s1 := cell_keep c1 k3
          have s2 := cell_keep c2 k3
          have hlo : wo.heap.size < w3.heap.size := by have := (b2.keep k3).lt; exact this
          clear h2 hmx hmn c0 c1 c2
          go_wp2_with fail
          go_roundw
          case rel => exact ⟨j + 1, by omega, by go_num, k3.alloc _⟩
          case measure => simp [intOf]; omega
        · obtain rfl : j = k := by omega
          go_wp2_with fail
          go_roundw
          case rel => exact ⟨j + 1, by omega, by go_num, Keeps.trans Kr (Keeps.trans (Keeps.trans k1 k2) k3)⟩
          case measure => simp [intOf]; omega
    · obtain rfl : k = 4 := by omega
      have bY := BY.keep Kr
      have HC := Lib.hid (show ∀ w', Keeps wo w' → BL w' w.heap.size 38 [.int .i64 (y 0).f, .int .i64 (y 0).t, .int .i64 (y 0).e, .int .i64 (y 1).f, .int .i64 (y 1).t, .int .i64 (y 1).e, .int .i64 (y 2).f, .int .i64 (y 2).t, .int .i64 (y 2).e, .int .i64 (y 3).f, .int .i64 (y 3).t, .int .i64 (y 3).e, .int .i64 thr] from fun w' q => bY.keep q)
      clear bY
      have HK := Lib.hid (show ∀ w', Keeps wo w' → (w'.cell? ⟨w.heap.size, 6, none⟩ = some (.int .i64 (y 2).f) ∧ w'.cell? ⟨w.heap.size, 8, none⟩ = some (.int .i64 (y 2).e) ∧ w'.cell? ⟨w.heap.size, 9, none⟩ = some (.int .i64 (y 3).f) ∧ w'.cell? ⟨w.heap.size, 10, none⟩ = some (.int .i64 (y 3).t) ∧ w'.cell? ⟨w.heap.size, 11, none⟩ = some (.int .i64 (y 3).e) ∧ w'.cell? ⟨w.heap.size, 12, none⟩ = some (.int .i64 thr) ∧ Keeps wo w') from fun w' q => ⟨(HC.out w' q).c 6 _ rfl, (HC.out w' q).c 8 _ rfl, (HC.out w' q).c 9 _ rfl, (HC.out w' q).c 10 _ rfl, (HC.out w' q).c 11 _ rfl, (HC.out w' q).c 12 _ rfl, q⟩)
      have HE1 := Lib.hid (show ∀ w', (w'.cell? ⟨w.heap.size, 6, none⟩ = some (.int .i64 (y 2).f) ∧ w'.cell? ⟨w.heap.size, 8, none⟩ = some (.int .i64 (y 2).e) ∧ w'.cell? ⟨w.heap.size, 9, none⟩ = some (.int .i64 (y 3).f) ∧ w'.cell? ⟨w.heap.size, 10, none⟩ = some (.int .i64 (y 3).t) ∧ w'.cell? ⟨w.heap.size, 11, none⟩ = some (.int .i64 (y 3).e) ∧ w'.cell? ⟨w.heap.size, 12, none⟩ = some (.int .i64 thr) ∧ Keeps wo w') → Calls Try.prog 8 #[.agg #[.int .i64 (y 3).f, .int .i64 (y 3).t, .int .i64 (y 3).e]] w' fun e w2 => e = .returned (.int .i64 0) ∧ (w2.cell? ⟨w.heap.size, 6, none⟩ = some (.int .i64 (y 2).f) ∧ w2.cell? ⟨w.heap.size, 8, none⟩ = some (.int .i64 (y 2).e) ∧ w2.cell? ⟨w.heap.size, 9, none⟩ = some (.int .i64 (y 3).f) ∧ w2.cell? ⟨w.heap.size, 10, none⟩ = some (.int .i64 (y 3).t) ∧ w2.cell? ⟨w.heap.size, 11, none⟩ = some (.int .i64 (y 3).e) ∧ w2.cell? ⟨w.heap.size, 12, none⟩ = some (.int .i64 thr) ∧ Keeps wo w2) from fun w' q => (HU.out w').mono (fun e w2 hh => ⟨hh.1, HK.out w2 (Keeps.trans q.2.2.2.2.2.2 hh.2)⟩))
      have HE2 := Lib.hid (show ∀ w', (w'.cell? ⟨w.heap.size, 6, none⟩ = some (.int .i64 (y 2).f) ∧ w'.cell? ⟨w.heap.size, 8, none⟩ = some (.int .i64 (y 2).e) ∧ w'.cell? ⟨w.heap.size, 9, none⟩ = some (.int .i64 (y 3).f) ∧ w'.cell? ⟨w.heap.size, 10, none⟩ = some (.int .i64 (y 3).t) ∧ w'.cell? ⟨w.heap.size, 11, none⟩ = some (.int .i64 (y 3).e) ∧ w'.cell? ⟨w.heap.size, 12, none⟩ = some (.int .i64 thr) ∧ Keeps wo w') → Calls Try.prog 50 #[.agg #[.int .i64 (y 3).f, .int .i64 (y 3).t, .int .i64 (y 3).e]] w' fun e w2 => e = .returned (.int .i64 ((y 2).e - (y 2).f)) ∧ (w2.cell? ⟨w.heap.size, 6, none⟩ = some (.int .i64 (y 2).f) ∧ w2.cell? ⟨w.heap.size, 8, none⟩ = some (.int .i64 (y 2).e) ∧ w2.cell? ⟨w.heap.size, 9, none⟩ = some (.int .i64 (y 3).f) ∧ w2.cell? ⟨w.heap.size, 10, none⟩ = some (.int .i64 (y 3).t) ∧ w2.cell? ⟨w.heap.size, 11, none⟩ = some (.int .i64 (y 3).e) ∧ w2.cell? ⟨w.heap.size, 12, none⟩ = some (.int .i64 thr) ∧ Keeps wo w2) from fun w' q => (HRo.out w').mono (fun e w2 hh => ⟨hh.1, HK.out w2 (Keeps.trans q.2.2.2.2.2.2 hh.2)⟩))
      go_wp2_with fail
      go_region_held3 (fun w' => (w'.cell? ⟨w.heap.size, 6, none⟩ = some (.int .i64 (y 2).f) ∧ w'.cell? ⟨w.heap.size, 8, none⟩ = some (.int .i64 (y 2).e) ∧ w'.cell? ⟨w.heap.size, 9, none⟩ = some (.int .i64 (y 3).f) ∧ w'.cell? ⟨w.heap.size, 10, none⟩ = some (.int .i64 (y 3).t) ∧ w'.cell? ⟨w.heap.size, 11, none⟩ = some (.int .i64 (y 3).e) ∧ w'.cell? ⟨w.heap.size, 12, none⟩ = some (.int .i64 thr) ∧ Keeps wo w'))
        (first | assumption | exact HK.out _ ((Touch.refl _ wo).drew) | go_keep)
        (first | (with_reducible refine (HE1.out _ (by assumption)).mono ?_; rintro e w' ⟨rfl, hS⟩) | (with_reducible refine (HE2.out _ (by assumption)).mono ?_; rintro e w' ⟨rfl, hS⟩))
      all_goals (
        go_wp2_with fail
        go_ret
        exact ⟨rfl, by have hS := (by assumption : _ ∧ _ ∧ _ ∧ _ ∧ _ ∧ _ ∧ _); exact Keeps.trans (Keeps.trans K1 Kr) hS.2.2.2.2.2.2⟩)

end Go.Proofs.Ytabfbgkablbeeaa
