/- Slide: same, awake, SlidePlans. -/
import Derived.Test.YtaajcbklknjigaaSl5
import Derived.Test.YtaajcbklknjigaaSame
namespace Go.Proofs.Ytaajcbklknjigaa
open Go.RowKit

set_option maxHeartbeats 1000000 in
theorem sps_any (A B : Option Addr) (n ca cb : Nat) (F G : Nat → Sp) (w : World) (hA : Rd w A (n * 3) (spF F)) (hB : Rd w B (n * 3) (spF G)) (hn : n ≤ 1000) (hfg : ∀ i, i < n → F i = G i) :
    Calls Try.prog 10 #[.slice A n ca, .slice B n cb] w fun e w' => e = .returned (.bool true) ∧ Keeps w w' := by
  have HFG := Lib.hid hfg
  clear hfg
  go_enter Try.func10, Try.ntmps10
  go_wp2_with fail
  go_loopw [13] (fun i wr => ∃ k : Nat, k ≤ n ∧ i = .int .i64 k ∧ Keeps w wr) (fun i _ => n - (intOf i).toNat)
  case atStart => exact ⟨0, Nat.zero_le _, rfl, Touch.refl _ _⟩
  case round =>
    obtain ⟨k, hk, rfl, K⟩ := hrel
    by_cases hlt : k < n
    · obtain ⟨b1, o1, rfl, c0, c1, c2⟩ := (hA.keep K).sp hlt
      obtain ⟨b2, o2, rfl, d0, d1, d2⟩ := (hB.keep K).sp hlt
      rw [HFG.out k hlt] at c0 c1 c2
      have hlt' : (k : Int) < (n : Int) := by omega
      generalize G k = s at *
      obtain ⟨f, t, e⟩ := s
      dsimp only at *
      go_wp2_with fail
      go_quiet (fail)
      go_wp2_with fail
      go_roundw
      case rel => exact ⟨k + 1, by omega, by go_num, K.drewN _⟩
      case measure => simp [intOf]; omega
    · go_wp2_with fail
      go_ret
      exact ⟨rfl, K⟩

def awL : Nat → Sp := fun i => if i = 0 then ⟨1, 1, 8⟩ else ⟨8, 9, 20⟩
theorem aw_plan {out : List Int} {k : Nat} {now : Nat → Sp} {err : Int} (h : PlanIs awL 2 (fun _ => 5) 2 out k now err) : err = 0 ∧ out = [1, 8] ∧ k = 2 ∧ (now 1).t = 13 := by
  have hr : Rise awL 2 := by
    intro i hi
    rcases (by omega : i = 0 ∨ i = 1) with rfl | rfl
    · exact ⟨by decide, by decide⟩
    · exact ⟨by decide, by decide⟩
  have hz : Rise awL 2 ∧ ∀ j, j < 2 → (1 : Int) ≤ (fun _ => 5 : Nat → Int) j := ⟨hr, fun j _ => by simp⟩
  rcases h with ⟨_, _, _, a⟩ | ⟨_, _, _, _, i, b, c⟩ | ⟨rfl, rfl, rfl, rfl, _, _⟩
  · exact absurd hz a
  · rcases (by omega : i = 0 ∨ i = 1) with rfl | rfl
    · exact absurd c (by unfold Stuck; decide)
    · exact absurd c (by unfold Stuck; decide)
  · exact ⟨rfl, by decide, rfl, by decide⟩

set_option maxHeartbeats 1000000 in
theorem awake_any (w : World) : Calls Try.prog 5 #[] w fun e w' => e = .returned (.bool true) ∧ Keeps w w' := by
  have HP := Lib.hid (fun A c B d wx (h1 : Rd wx A (2 * 3) (spF awL)) (h2 : Rd wx B 2 (intF .i64 fun _ => 5)) => plan_any A 2 c awL B 2 d (fun _ => 5) wx h1 (by omega) h2 (by omega))
  go_enter Try.func5, Try.ntmps5
  go_wp2_with fail
  have hb1 : Blk (w.alloc (.cells #[.int .i64 1, .int .i64 1, .int .i64 8, .int .i64 8, .int .i64 9, .int .i64 20] 36)) w.heap.size 36 6 (spF awL) :=
    Blk.made w 6 _ _ _ rfl (fun j hj => by rcases (by omega : j = 0 ∨ j = 1 ∨ j = 2 ∨ j = 3 ∨ j = 4 ∨ j = 5) with rfl | rfl | rfl | rfl | rfl | rfl <;> rfl)
  have hb2 : Blk ((w.alloc (.cells #[.int .i64 1, .int .i64 1, .int .i64 8, .int .i64 8, .int .i64 9, .int .i64 20] 36)).alloc (.cells #[.int .i64 5, .int .i64 5] 3)) (w.heap.size + 1) 3 2 (intF .i64 fun _ => 5) := by
    have := Blk.made (w.alloc (.cells #[.int .i64 1, .int .i64 1, .int .i64 8, .int .i64 8, .int .i64 9, .int .i64 20] 36)) 2 3 (intF .i64 fun _ => 5) #[.int .i64 5, .int .i64 5] rfl (fun j hj => by rcases (by omega : j = 0 ∨ j = 1) with rfl | rfl <;> rfl)
    simpa using this
  have hb1' := hb1.alloc (.cells #[.int .i64 5, .int .i64 5] 3)
  have K1 := ((Touch.refl (fun _ => False) w).alloc (.cells #[.int .i64 1, .int .i64 1, .int .i64 8, .int .i64 8, .int .i64 9, .int .i64 20] 36)).alloc (.cells #[.int .i64 5, .int .i64 5] 3)
  refine (HP.out _ _ _ _ _ (fun _ => ⟨w.heap.size, 0, rfl, hb1'.lt, fun j hj => by rw [Nat.zero_add]; exact hb1'.cell hj⟩) (fun _ => ⟨w.heap.size + 1, 0, rfl, hb2.lt, fun j hj => by rw [Nat.zero_add]; exact hb2.cell hj⟩)).mono ?_
  rintro e w2 ⟨v1, ad, cp, out, k, now, err, rfl, hp, hout, hnow, k2⟩
  obtain ⟨rfl, rfl, rfl, h13⟩ := aw_plan hp
  have K2 := Keeps.trans K1 k2
  obtain ⟨oa, oc, rfl⟩ := hout.form
  obtain ⟨ob, oo, rfl, e0⟩ := hout.rd.1.one (k := 0) (by decide)
  obtain ⟨ob', oo', e2, e1⟩ := hout.rd.1.one (k := 1) (by decide)
  cases e2
  obtain ⟨gb, rfl, _, _, _, d1, _, _, _, _⟩ := hnow.at_ (k := 1) (by decide)
  rw [h13] at d1
  have x0 : w2.cell? ⟨ob, oo, none⟩ = some (.int .i64 1) := e0
  have x1 : w2.cell? ⟨ob, oo + 1, none⟩ = some (.int .i64 8) := e1
  have x2 : w2.cell? ⟨gb, 4, none⟩ = some (.int .i64 13) := d1
  clear e0 e1 d1
  clear hp hout hnow HP hb1 hb2 hb1' K1 k2 h13
  go_wp2_with fail
  go_ret
  exact ⟨rfl, K2⟩

set_option maxHeartbeats 1000000 in
theorem plans_walk (A : Option Addr) (n cap : Nat) (L : Nat → Sp) (B : Option Addr) (m capz : Nat) (Z : Nat → Int) (w : World) (hr : Rd w A (n * 3) (spF L)) (hz : Rd w B m (intF .i64 Z)) (hn : n ≤ 9223372036854775807) (hm : m ≤ 9223372036854775807) :
    Calls Try.prog 3 #[.slice A n cap, .slice B m capz] w fun e w' => e = .returned (.bool true) ∧ Keeps w w' := by
  by_cases h1 : n ≤ 20
  · by_cases h2 : m ≤ 100
    · have g1 : decide ((20 : Int) < (n : Int)) = false := by simp; omega
      have g2 : decide ((100 : Int) < (m : Int)) = false := by simp; omega
      go_enter Try.func3, Try.ntmps3
      go_wp2_with fail
      refine (awake_any _).mono ?_
      rintro e w1 ⟨rfl, k1⟩
      have hr1 := hr.keep k1
      have hz1 := hz.keep k1
      go_wp2_with fail
      refine (back_any A n cap L _ hr1 (by omega)).mono ?_
      rintro e w2 ⟨ad, cp, rfl, hown, k2⟩
      have hr2 := hr1.keep k2
      have hz2 := hz1.keep k2
      have hor := hown.rd.1
      clear hown
      go_wp2_with fail
      refine (plan_any ad n cp L B m capz Z _ hor (by omega) hz2 (by omega)).mono ?_
      rintro e w3 ⟨v1, ad1, cp1, out1, n1, now1, err1, rfl, hp1, hout1, hnow1, k3⟩
      have hr3 := hr2.keep k3
      have hz3 := hz2.keep k3
      go_wp2_with fail
      refine (rplan_any A n cap L B m capz Z _ hr3 (by omega) hz3 (by omega)).mono ?_
      rintro e w4 ⟨v2, ad2, cp2, out2, n2, now2, err2, rfl, hp2, hout2, hnow2, k4⟩
      obtain ⟨rfl, rfl, rfl, hnn⟩ := hp1.same hp2
      obtain ⟨oa1, oc1, rfl⟩ := hout1.form
      obtain ⟨oa2, oc2, rfl⟩ := hout2.form
      have ho1 := hout1.rd.1.keep k4
      have ho2 := hout2.rd.1
      have hn1 := hnow1.rd.keep k4
      have hn2 := hnow2.rd
      have K4 := Keeps.trans (Keeps.trans (Keeps.trans k1 k2) k3) k4
      have hb : out1.length ≤ 1000 ∧ n1 ≤ 1000 := by
        rcases hp1 with ⟨_, rfl, rfl, _⟩ | ⟨_, rfl, rfl, _⟩ | ⟨_, rfl, rfl, _⟩
        · exact ⟨by simp, by omega⟩
        · exact ⟨by simp, by omega⟩
        · exact ⟨by rw [sts_out]; omega, by omega⟩
      obtain ⟨hb1, hb2⟩ := hb
      have HNN := Lib.hid hnn
      have HP1 := Lib.hid hp1
      clear hp1 hp2 hout1 hout2 hnow1 hnow2 k1 k2 k3 k4 hr1 hr2 hr3 hz1 hz2 hz3 hor hnn
      go_wp2_with fail
      refine (same_any _ _ _ _ _ _ _ _ _ ho1 ho2 (by omega) (by omega)).mono ?_
      rintro e w5 ⟨rfl, k5⟩
      rw [sameB_true (fun _ _ => rfl)]
      have hn1' := hn1.keep k5
      have hn2' := hn2.keep k5
      go_wp2_with fail
      refine (sps_any _ _ _ _ _ _ _ _ hn1' hn2' hb2 HNN.out).mono ?_
      rintro e w6 ⟨rfl, k6⟩
      go_wp2_with fail
      go_ret
      exact ⟨rfl, Keeps.trans (Keeps.trans K4 k5) k6⟩
    · have g1 : decide ((20 : Int) < (n : Int)) = false := by simp; omega
      have g2 : decide ((100 : Int) < (m : Int)) = true := by simp; omega
      go_enter Try.func3, Try.ntmps3
      go_wp2_with fail
      refine (awake_any _).mono ?_
      rintro e w1 ⟨rfl, k1⟩
      go_wp2_with fail
      refine (awake_any _).mono ?_
      rintro e w2 ⟨rfl, k2⟩
      go_wp2_with fail
      go_ret
      exact ⟨rfl, Keeps.trans k1 k2⟩
  · have g1 : decide ((20 : Int) < (n : Int)) = true := by simp; omega
    go_enter Try.func3, Try.ntmps3
    go_wp2_with fail
    refine (awake_any _).mono ?_
    rintro e w1 ⟨rfl, k1⟩
    go_wp2_with fail
    refine (awake_any _).mono ?_
    rintro e w2 ⟨rfl, k2⟩
    go_wp2_with fail
    go_ret
    exact ⟨rfl, Keeps.trans k1 k2⟩

end Go.Proofs.Ytaajcbklknjigaa
