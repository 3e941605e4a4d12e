/- Turn and walk by contract. -/
import Derived.Test.YtnpmadnihheahaaBase
import Derived.Test.YtnpmadnihheahaaPlotB
import Derived.ScopeJumps
import Derived.WalkMore
namespace Go.Proofs.Ytnpmadnihheahaa
open Go.RowKit

/-- A complex number turned so often. -/
def rotN : Nat → Nat → Nat → Nat × Nat
  | 0, a, b => (a, b)
  | k + 1, a, b => rotN k (nB b) a
theorem rotN_succ : ∀ (k a b : Nat), rotN (k + 1) a b = (nB (rotN k a b).2, (rotN k a b).1)
  | 0, _, _ => rfl
  | k + 1, a, b => by show rotN (k + 1) (nB b) a = _; rw [rotN_succ k]; rfl
theorem tmod4 (t : Int) : (t.tmod 4 + 4) % 4 = t % 4 ∧ -4 < t.tmod 4 ∧ t.tmod 4 < 4 := by
  have h1 := Int.tmod_def t 4
  have h2 := Int.tmod_lt_of_pos t (b := 4) (by decide)
  have h3 : -4 < t.tmod 4 := by
    rcases Int.le_total 0 t with h | h
    · have := Int.tmod_nonneg 4 h; omega
    · have e : t.tmod 4 = -((-t).tmod 4) := by rw [Int.neg_tmod, Int.neg_neg]
      have := Int.tmod_lt_of_pos (-t) (b := 4) (by decide)
      omega
  exact ⟨by omega, h3, h2⟩

@[local go_sem] theorem unary_neg_float (b : Nat) : Op.unary .neg (.float .f64 b) = pure (.float .f64 (nB b)) := rfl

set_option maxHeartbeats 1000000 in
theorem turn_any (a b : Nat) (t : Int) (w : World) :
    Calls Try.prog 15 #[.complex .f64 a b, .int .i64 t] w fun e w' => e = .returned (.complex .f64 (rotN (t % 4).toNat a b).1 (rotN (t % 4).toNat a b).2) ∧ w = w' := by
  obtain ⟨m0, m1, m2⟩ := tmod4 t
  obtain ⟨r, hr, hr'⟩ : ∃ r : Nat, r < 4 ∧ t % 4 = (r : Int) := ⟨(t % 4).toNat, by omega, by omega⟩
  rw [hr', Int.toNat_natCast]
  have hq : (t.tmod 4 + 4) % 4 = (r : Int) := by omega
  clear m0 hr'
  go_enter Try.func15, Try.ntmps15
  go_wp2_with fail
  go_loop [0, 9] (fun z i => ∃ k : Nat, k ≤ r ∧ i = .int .i64 k ∧ z = .complex .f64 (rotN k a b).1 (rotN k a b).2) (fun _ i => r - (intOf i).toNat)
  case atStart => exact ⟨0, Nat.zero_le _, rfl, rfl⟩
  case round =>
    obtain ⟨k, hk, rfl, rfl⟩ := hrel
    have HR := Lib.hid (rotN_succ k a b)
    by_cases hlt : k < r
    · go_wp2_with fail
      go_round
      case rel => exact ⟨k + 1, by omega, by go_num, by rw [HR.out]⟩
      case measure => simp [intOf]; omega
    · obtain rfl : r = k := by omega
      go_wp2_with fail
      go_ret
      exact ⟨rfl, rfl⟩

/-- One turn of a way. -/
theorem turn_way (t : Int) (w : World) :
    Calls Try.prog 15 #[.complex .f64 (wayR t) (wayI t), .int .i64 1] w fun e w' => e = .returned (.complex .f64 (wayR (t + 1)) (wayI (t + 1))) ∧ w = w' := by
  obtain ⟨h1, h2⟩ := way_turn t
  have e0 : ((1 : Int) % 4).toNat = 1 := by decide
  have e1 : (rotN 1 (wayR t) (wayI t)).1 = wayR (t + 1) := h1
  have e2 : (rotN 1 (wayR t) (wayI t)).2 = wayI (t + 1) := h2
  refine (turn_any (wayR t) (wayI t) 1 w).mono fun e w' ⟨he, hw⟩ => ⟨?_, hw⟩
  rw [he, e0, e1, e2]

/-- What the model adds. -/
theorem add_z (s : Sp) (hx1 : -33 ≤ s.x) (hx2 : s.x ≤ 33) (hy1 : -33 ≤ s.y) (hy2 : s.y ≤ 33) (w : World) :
    (binOp .add 23 (.complex .f64 (fB s.x) (fB s.y)) (.complex .f64 (wayR s.turns) (wayI s.turns))).run Try.prog w = .ok (.complex .f64 (fB (s.x + wx s.turns)) (fB (s.y + wy s.turns))) w := by
  have h1 := (add_way s.x s.turns hx1 hx2).1
  have h2 := (add_way s.y s.turns hy1 hy2).2
  generalize fB s.x = a at *
  generalize fB s.y = b at *
  generalize fB (s.x + wx s.turns) = a' at *
  generalize fB (s.y + wy s.turns) = b' at *
  generalize wayR s.turns = c at *
  generalize wayI s.turns = d at *
  simp only [binOp, Op.complexOp, Op.Complex.arith, Op.floatArith, h1, h2]
  rfl

theorem st_turn {n : Nat} (h : (St n).gone + 1 = (St n).run) : St (n + 1) = ⟨(St n).x + wx (St n).turns, (St n).y + wy (St n).turns, (St n).run + (1 - ((St n).turns + 1) % 2), 0, (St n).turns + 1⟩ := by
  show (St n).next = _
  unfold Sp.next
  rw [if_pos h]
theorem st_go {n : Nat} (h : ¬ (St n).gone + 1 = (St n).run) : St (n + 1) = ⟨(St n).x + wx (St n).turns, (St n).y + wy (St n).turns, (St n).run, (St n).gone + 1, (St n).turns⟩ := by
  show (St n).next = _
  unfold Sp.next
  rw [if_neg h]
theorem lit0 : fB 0 = 0 := by decide +kernel
theorem lit1 : wayR 0 = 4607182418800017408 := by decide +kernel
theorem lit2 : wayI 0 = 0 := by decide +kernel
theorem add_0 (w : World) : (binOp .add 23 (.complex .f64 0 0) (.complex .f64 4607182418800017408 0)).run Try.prog w = .ok (.complex .f64 (fB (St 1).x) (fB (St 1).y)) w := by
  have h := add_z Sp.start (by decide) (by decide) (by decide) (by decide) w
  simp only [Sp.start, lit0, lit1, lit2] at h
  exact h
theorem turn_0 (w : World) : Calls Try.prog 15 #[.complex .f64 4607182418800017408 0, .int .i64 1] w fun e w' => e = .returned (.complex .f64 (wayR 1) (wayI 1)) ∧ w = w' := by
  have h := turn_way 0 w
  rw [lit1, lit2] at h
  exact h

set_option maxRecDepth 100000 in
set_option maxHeartbeats 2000000 in
theorem walk_any (K : Nat) (caps : Array Value) (cont : Nat → Bool) (I : Nat → World → Prop) (S : Nat → Prop) (w : World)
    (hcall : ∀ (ar : Array Value) (w : World), (callFunc K ar).run Try.prog w = .ok (.enter K ar) w) (hI : I 0 w)
    (hstep : ∀ n wx, n < 4096 → (∀ j, j < n → cont j = true) → I n wx → Touch S w wx → Calls Try.prog K (#[.int .i64 (n : Int), .complex .f64 (fB (St n).x) (fB (St n).y)] ++ caps) wx fun e w' => e = .returned (.bool (cont n)) ∧ I (n + 1) w' ∧ Touch S wx w') :
    Calls Try.prog 20 #[.func (.func K) #[] caps] w fun e w' => e = .returned (.tuple #[]) ∧ Touch S w w' ∧ ∃ m, m ≤ 4096 ∧ I m w' ∧ (∀ j, j + 1 < m → cont j = true) ∧ (m < 4096 → 0 < m ∧ cont (m - 1) = false) := by
  go_enter Try.func20, Try.ntmps20
  refine wp_scope_jumps 0 (fun a' w' => ∃ (n : Nat) (u8 u9 u10 u11 u12 u13 u14 u15 u16 u17 u18 u19 u20 u21 u22 u23 u24 u25 u26 u27 u28 u29 u30 u31 u32 u33 u34 u35 : Value), a' = { tmps := #[.func (.func K) #[] caps, undef, .complex .f64 (fB (St n).x) (fB (St n).y), .complex .f64 (wayR (St n).turns) (wayI (St n).turns), .int .i64 (n : Int), .int .i64 (St n).run, .int .i64 (St n).gone, .int .i64 (St n).turns, u8, u9, u10, u11, u12, u13, u14, u15, u16, u17, u18, u19, u20, u21, u22, u23, u24, u25, u26, u27, u28, u29, u30, u31, u32, u33, u34, u35], defers := [] } ∧
      1 ≤ n ∧ n ≤ 4096 ∧ I n w' ∧ Touch S w w' ∧ ∀ j, j < n → cont j = true) (fun a' _ => 4096 - (intOf (a'.tmps.getD 4 undef)).toNat) rfl ?_ ?_
  · have hadd := add_0
    have HT := Lib.hid turn_0
    have hs0 := hstep 0 w (by omega) (fun j h => by omega) hI (Touch.refl _ _)
    rw [show (St 0).x = 0 from rfl, show (St 0).y = 0 from rfl, lit0] at hs0
    have HS := Lib.hid hs0
    clear hs0 hstep
    go_wp2_with fail
    go_step3
    go_wp2_with fail
    refine Calls.mono HS.out ?_
    rintro e w1 ⟨rfl, hI1, k1⟩
    cases hc : cont 0 with
    | false =>
      have HC := Lib.hid hc
      clear hc
      go_wp2_with fail
      simp only [Exit.jump]
      exact bodyPost_ret (v := .tuple #[]) (by simp [results, Try.results20, go_sem]) rfl ⟨rfl, k1, 1, by omega, hI1, fun j h => by omega, fun _ => ⟨by omega, HC.out⟩⟩
    | true =>
      have HC := Lib.hid hc
      clear hc
      go_wp2_with fail
      refine Calls.mono (HT.out _) ?_
      rintro e w2 ⟨rfl, rfl⟩
      go_wp2_with fail
      go_step3
      exact ⟨rfl, 1, _, _, _, _, _, _, _, _, _, _, _, _, _, _, _, _, _, _, _, _, _, _, _, _, _, _, _, _, rfl, by omega, by omega, hI1, k1, fun j h => by cases (show j = 0 by omega); exact HC.out⟩
  · rintro a' wx ⟨n, u8, u9, u10, u11, u12, u13, u14, u15, u16, u17, u18, u19, u20, u21, u22, u23, u24, u25, u26, u27, u28, u29, u30, u31, u32, u33, u34, u35, rfl, hn1, hn2, hIn, kx, hall⟩
    have HA := Lib.hid hall
    clear hall
    by_cases hlt : n < 4096
    · have hs := hstep n wx hlt HA.out hIn kx
      have HS := Lib.hid hs
      have q := sp n (by omega)
      obtain ⟨q1, q2, q3, q4, q5, q6, q7, q8, q9, q10, _⟩ := q
      have hadd := add_z (St n) (by omega) (by omega) (by omega) (by omega)
      have HT := Lib.hid (turn_way (St n).turns)
      have HX := Lib.hid (st_turn (n := n))
      have HY := Lib.hid (st_go (n := n))
      clear hs hstep
      generalize St n = s at *
      obtain ⟨x, y, run, gone, turns⟩ := s
      dsimp only at *
      go_wp2_with fail
      refine Calls.mono HS.out ?_
      rintro e w1 ⟨rfl, hI1, k1⟩
      have k2 : Touch S w w1 := kx.trans k1 (fun _ h _ => h)
      cases hc : cont n with
      | false =>
        have HC := Lib.hid hc
        clear hc
        go_wp2_with fail
        simp only [Exit.jump]
        exact bodyPost_ret (v := .tuple #[]) (by simp [results, Try.results20, go_sem]) rfl ⟨rfl, k2, n + 1, by omega, hI1, fun j h => HA.out j (by omega), fun _ => ⟨by omega, HC.out⟩⟩
      | true =>
        have HC := Lib.hid hc
        have hall' : ∀ j, j < n + 1 → cont j = true := fun j h => by
          rcases (by omega : j < n ∨ j = n) with h' | rfl
          · exact HA.out j h'
          · exact hc
        have HA2 := Lib.hid hall'
        clear hc hall'
        by_cases hg : gone + 1 = run
        · have hg' : (gone + 1 == run) = true := by simp [hg]
          have HN := Lib.hid (HX.out hg)
          clear hg
          go_wp2_with fail
          refine Calls.mono (HT.out _) ?_
          rintro e w2 ⟨rfl, rfl⟩
          go_wp2_with fail
          go_step3
          refine ⟨rfl, ⟨n + 1, ?_⟩, ?_⟩
          · rw [HN.out]
            exact ⟨_, _, _, _, _, _, _, _, _, _, _, _, _, _, _, _, _, _, _, _, _, _, _, _, _, _, _, _, rfl, by omega, by omega, hI1, k2, HA2.out⟩
          · simp [intOf]; omega
        · have hg' : (gone + 1 == run) = false := by simp [hg]
          have HN := Lib.hid (HY.out hg)
          clear hg
          go_wp2_with fail
          go_step3
          refine ⟨rfl, ⟨n + 1, ?_⟩, ?_⟩
          · rw [HN.out]
            exact ⟨_, _, _, _, _, _, _, _, _, _, _, _, _, _, _, _, _, _, _, _, _, _, _, _, _, _, _, _, rfl, by omega, by omega, hI1, k2, HA2.out⟩
          · simp [intOf]; omega
    · go_wp2_with fail
      simp only [Exit.jump]
      exact bodyPost_ret (v := .tuple #[]) (by simp [results, Try.results20, go_sem]) rfl ⟨rfl, kx, n, by omega, hIn, fun j h => HA.out j (by omega), fun h => absurd h hlt⟩

end Go.Proofs.Ytnpmadnihheahaa
