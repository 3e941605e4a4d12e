/- A region that draws its order: a call that only computes may be taken first, like a load. -/
import Derived.Test.YtabfbgkablbeeaaG04
import Derived.Laws.BitsAllLaws
import Derived.Test.YtabfbgkablbeeaaG01
import Derived.Deep.RegionHeld3
set_option linter.all false

namespace Go.Proofs.Ytabfbgkablbeeaa
open Go.RowKit

/-- A head as a word. -/
def bitI (b : Bool) (k : Nat) : Int := if b then 2 ^ k else 0
def hdW (h : Hd) : Int := h.cls + 64 * h.age + bitI h.mark 10 + bitI h.fin 11 + bitI h.done 12 + 8192 * h.fwd
theorem bit10 (b : Bool) (w : World) : Calls Try.prog 85 #[.bool b, .int .i64 10] w fun r w' => r = .returned (.int .i64 (bitI b 10)) ∧ w' = w := bit_any b 10 (by omega) w
theorem bit11 (b : Bool) (w : World) : Calls Try.prog 85 #[.bool b, .int .i64 11] w fun r w' => r = .returned (.int .i64 (bitI b 11)) ∧ w' = w := bit_any b 11 (by omega) w
theorem bit12 (b : Bool) (w : World) : Calls Try.prog 85 #[.bool b, .int .i64 12] w fun r w' => r = .returned (.int .i64 (bitI b 12)) ∧ w' = w := bit_any b 12 (by omega) w
theorem wraps_i64_63 (n : Int) (h0 : 0 ≤ n) (h1 : n < 2 ^ 63) : IntKind.i64.wrap n = n := IntWalk.i64_in n ⟨by omega, by omega⟩
/-- Two numbers whose bits lie apart. -/
theorem or_apart (i : Nat) (hi : i ≤ 40) (x y : Int) (hx0 : 0 ≤ x) (hx : x < 2 ^ i) (hy0 : 0 ≤ y) (hy : y % 2 ^ i = 0) (hy1 : y < 2 ^ 62) : bits .or .i64 x y = x + y := by
  have hp : (2 : Nat) ^ i ≤ 2 ^ 40 := Nat.pow_le_pow_right (by decide) hi
  obtain ⟨a, rfl⟩ := Int.eq_ofNat_of_zero_le hx0
  obtain ⟨b, rfl⟩ := Int.eq_ofNat_of_zero_le hy0
  have ha : a < 2 ^ i := by exact_mod_cast hx
  have hb : b % 2 ^ i = 0 := by exact_mod_cast hy
  have hb1 : b < 2 ^ 62 := by exact_mod_cast hy1
  have p1 : (2 : Nat) ^ 40 < 2 ^ 63 := by decide
  have p2 : (2 : Nat) ^ 62 < 2 ^ 63 := by decide
  have h := (bits_nat .i64 63 (by decide) wraps_i64_63 a b (Nat.lt_trans ha (Nat.lt_of_le_of_lt hp p1)) (Nat.lt_trans hb1 p2)).2
  rw [Nat.or_comm, nat_join i b a hb ha, Nat.add_comm] at h
  simpa using h
set_option maxHeartbeats 400000 in
theorem word_yes (h : Hd) (w : World) (hok : h.ok) :
    Calls Try.prog 70 #[hdV h] w fun r w' => r = .returned (.tuple #[.int .i64 (hdW h), .int .i64 0]) ∧ Keeps w w' := by
  have hr := fun w => hright_any h w
  simp only [decide_eq_true hok] at hr
  have HR := Lib.hid hr
  clear hr
  obtain ⟨⟨o1, o2⟩, ⟨o3, o4⟩, ⟨o5, o6⟩, o7⟩ := hok
  obtain ⟨c, a, f, m, fi, d⟩ := h
  unfold hdV at *
  dsimp only at *
  have hB := Blk.made w 6 96 (fun j => if j = 0 then .int .i64 c else if j = 1 then .int .i64 a else if j = 2 then .int .i64 f else if j = 3 then .bool m else if j = 4 then .bool fi else .bool d) #[.int .i64 c, .int .i64 a, .int .i64 f, .bool m, .bool fi, .bool d] rfl (fun j hj => by rcases (by omega : j = 0 ∨ j = 1 ∨ j = 2 ∨ j = 3 ∨ j = 4 ∨ j = 5) with rfl | rfl | rfl | rfl | rfl | rfl <;> rfl)
  have HB := Lib.hid hB
  have HK := Lib.hid ((Touch.refl (fun _ => False) w).alloc (.cells #[.int .i64 c, .int .i64 a, .int .i64 f, .bool m, .bool fi, .bool d] 96))
  clear hB
  go_enter Try.func70, Try.ntmps70
  go_wp2_with fail
  refine (HR.out _).mono ?_
  rintro r w1 ⟨rfl, k1⟩
  have hB1 := Blk.touch HB.out k1 (fun h => h)
  have d0 : w1.cell? ⟨w.heap.size, 0, none⟩ = some (.int .i64 c) := hB1.cell (j := 0) (by omega)
  have d1 : w1.cell? ⟨w.heap.size, 1, none⟩ = some (.int .i64 a) := hB1.cell (j := 1) (by omega)
  have d2 : w1.cell? ⟨w.heap.size, 2, none⟩ = some (.int .i64 f) := hB1.cell (j := 2) (by omega)
  have d3 : w1.cell? ⟨w.heap.size, 3, none⟩ = some (.bool m) := hB1.cell (j := 3) (by omega)
  have d4 : w1.cell? ⟨w.heap.size, 4, none⟩ = some (.bool fi) := hB1.cell (j := 4) (by omega)
  have d5 : w1.cell? ⟨w.heap.size, 5, none⟩ = some (.bool d) := hB1.cell (j := 5) (by omega)
  have K1 := Keeps.trans HK.out k1
  clear hB1 k1
  have G1 := Lib.hid (fun n => Calls.quiet_of_same ((bit10 m (w1.drewN n)).mono fun _ _ h => h))
  have G2 := Lib.hid (fun n => Calls.quiet_of_same ((bit11 fi (w1.drewN n)).mono fun _ _ h => h))
  have G3 := Lib.hid (fun n => Calls.quiet_of_same ((bit12 d (w1.drewN n)).mono fun _ _ h => h))
  have q1 : bitI m 10 = 0 ∨ bitI m 10 = 1024 := by cases m <;> simp [bitI]
  have q2 : bitI fi 11 = 0 ∨ bitI fi 11 = 2048 := by cases fi <;> simp [bitI]
  have q3 : bitI d 12 = 0 ∨ bitI d 12 = 4096 := by cases d <;> simp [bitI]
  have HV := Lib.hid (show bits .or .i64 (bits .or .i64 (bits .or .i64 (bits .or .i64 (bits .or .i64 c (a * 64)) (bitI m 10)) (bitI fi 11)) (bitI d 12)) (f * 8192) = c + 64 * a + bitI m 10 + bitI fi 11 + bitI d 12 + 8192 * f by
    rw [or_apart 6 (by omega) c (a * 64) (by omega) (by omega) (by omega) (by omega) (by omega),
      or_apart 10 (by omega) (c + a * 64) (bitI m 10) (by omega) (by omega) (by omega) (by omega) (by omega),
      or_apart 11 (by omega) (c + a * 64 + bitI m 10) (bitI fi 11) (by omega) (by omega) (by omega) (by omega) (by omega),
      or_apart 12 (by omega) (c + a * 64 + bitI m 10 + bitI fi 11) (bitI d 12) (by omega) (by omega) (by omega) (by omega) (by omega),
      or_apart 13 (by omega) (c + a * 64 + bitI m 10 + bitI fi 11 + bitI d 12) (f * 8192) (by omega) (by omega) (by omega) (by omega) (by omega)]
    omega)
  clear q1 q2 q3
  go_wp2_with fail
  go_quiet ((go_at_call 85; first | with_reducible exact G1.out _ | with_reducible exact G2.out _ | with_reducible exact G3.out _))
  go_wp2_with fail
  go_returns
  exact ⟨congrArg (fun x => Ending.returned (.tuple #[.int .i64 x, .int .i64 0])) HV.out, K1.drewN _⟩

end Go.Proofs.Ytabfbgkablbeeaa

namespace Go.Proofs.Ytabfbgkablbeeaa
open Go Go.RowKit
section
variable {P : Program} {ops : Array Oper} {Q : Exit → Act → World → Prop} {md : Region.Mode} {S : World → Prop}

/-- In state a the operation calls a function that answers v in every world that meets S, and leaves that world alone. -/
def Answers (P : Program) (ops : Array Oper) (S : World → Prop) (o : Oper) (v : Value) (a : Act) : Prop :=
  Region.wanted o (yielded ops a.tmps) = true ∧ ∀ w, S w → ∃ f args, (execOp a.eval o).run P w = .ok (.enter f args) w ∧ Calls P f args w fun e w' => e = .returned v ∧ w = w'

theorem Answers.turn {o : Oper} {v : Value} {a a' : Act} (hy : Answers P ops S o v a) (he : execOp a'.eval o = execOp a.eval o)
    (hw : Region.wanted o (yielded ops a'.tmps) = Region.wanted o (yielded ops a.tmps)) : Answers P ops S o v a' := by
  obtain ⟨h1, h2⟩ := hy
  exact ⟨hw.trans h1, fun w hS => by rw [he]; exact h2 w hS⟩

theorem Answers.does {i : Nat} {o : Oper} {v : Value} {a : Act} (hi : ops[i]? = some o) (hy : Answers P ops S o v a)
    {K : Act → World → Prop} {w : World} (hS : S w) (h : K (a.put o.dst v) w) : wpOp P ops Q i K a w := by
  obtain ⟨h1, h2⟩ := hy
  obtain ⟨f, args, hr, hc⟩ := h2 w hS
  unfold Go.wpOp
  simp only [hi, h1, if_true, Oper.wp, hr, Oper.upon]
  refine .inl (hc.mono ?_)
  rintro e w' ⟨rfl, rfl⟩
  exact h

/-- Another operation, apart from it, may come ahead of it. -/
theorem Answers.swap {j : Nat} {oi oj : Oper} {v : Value} (hj : ops[j]? = some oj) (hap : oi.apart ops oj = true)
    (hsi : ∀ cs b, oi.op ≠ .select cs b) (hsj : ∀ cs b, oj.op ≠ .select cs b)
    (hQ : ∀ c a w, Q (.panic c) (a.put oi.dst v) w → Q (.panic c) a w) {K : Act → World → Prop} {a : Act} {w : World}
    (hy : Answers P ops S oi v a) (h : wpOp P ops Q j K (a.put oi.dst v) w) :
    wpOp P ops Q j (fun a' w' => Answers P ops S oi v a' ∧ K (a'.put oi.dst v) w') a w := by
  obtain ⟨p1, p2, p3⟩ := Oper.apart_spec hap
  have stay : ∀ (b : Act) (u : Value), Answers P ops S oi v b → Answers P ops S oi v (b.put oj.dst u) := fun b u hb =>
    hb.turn (execOp_put oi hsi b oj.dst u p3) (wanted_put oi b oj.dst u p3)
  have back : ∀ (b : Act) (u : Value), K ((b.put oi.dst v).put oj.dst u) = K ((b.put oj.dst u).put oi.dst v) := fun b u => by
    rw [Act.put_comm b v u p2]
  unfold wpOp at *
  simp only [hj] at *
  rw [wanted_put oj a oi.dst v p1] at h
  by_cases hw : Region.wanted oj (yielded ops a.tmps) = true
  · rw [if_pos hw] at h ⊢
    rcases h with h | ⟨h1, h2⟩
    · left
      unfold Oper.wp at *
      rw [execOp_put oj hsj a oi.dst v p1] at h
      cases hrun : (execOp a.eval oj).run P w with
      | ok n w' =>
        rw [hrun] at h
        cases n with
        | value u => exact ⟨stay a u hy, by have := back a u; simp only [Oper.upon] at h; rw [← this]; exact h⟩
        | skip => exact ⟨stay a _ hy, by have := back a undef; simp only [Oper.upon] at h; rw [← this]; exact h⟩
        | defer d =>
          simp only [Oper.upon] at h ⊢
          refine ⟨stay _ _ (hy.turn rfl rfl), ?_⟩
          rw [← Act.put_comm _ v undef p2, ← Act.put_defers]
          exact h
        | enter f args =>
          refine Calls.mono (h : Calls P f args w' _) fun e w'' he => ?_
          cases e with
          | returned u => exact ⟨stay a u hy, by have := back a u; rw [← this]; exact he⟩
          | panicked c => exact hQ _ _ _ he
          | outgrown => exact he
        | row r args => exact Rows.mono (h : Rows P r args w' _) fun u w'' he => ⟨stay a u hy, by have := back a u; rw [← this]; exact he⟩
        | _ => exact h.elim
      | halt x w' =>
        rw [hrun] at h
        cases x with
        | panic u => exact hQ _ _ _ h
        | _ => exact h.elim
    · right
      refine ⟨?_, h2⟩
      unfold Oper.asks at *
      rw [execOp_put oj hsj a oi.dst v p1] at h1
      exact h1
  · rw [if_neg hw] at h ⊢
    exact ⟨stay a undef hy, by rw [← back a undef]; exact h⟩

theorem Answers.first {i : Nat} {oi : Oper} {v : Value} (hi : ops[i]? = some oi) (hsel : ∀ (j : Nat) (o : Oper) cs b, ops[j]? = some o → o.op ≠ .select cs b)
    (hQ : ∀ c a w, Q (.panic c) (a.put oi.dst v) w → Q (.panic c) a w) (fuel : Nat) :
    ∀ (listed : Array Bool) (a : Act) (w : World),
      (∀ j oj, ops[j]? = some oj → j ≠ i → listed.getD j true = false → (∀ e ∈ oj.after, Region.binds md e = true → e.on ≠ i) → oi.apart ops oj = true) →
      i ∈ Region.ready md ops listed → Answers P ops S oi v a → S w →
      wpAnyH P md ops Q S fuel (listed.setIfInBounds i true) (a.put oi.dst v) w → wpAnyH P md ops Q S (fuel + 1) listed a w := by
  induction fuel with
  | zero =>
    intro listed a w _ hr hy hS H
    refine ⟨fun h => (by rw [h] at hr; cases hr), fun j hj => ?_⟩
    by_cases hji : j = i
    · subst hji
      exact hy.does hi hS ⟨hS, H⟩
    · have h0 := ready_mono hj hji
      rw [H.1] at h0
      cases h0
  | succ fuel ih =>
    intro listed a w hfree hr hy hS H
    refine ⟨fun h => (by rw [h] at hr; cases hr), fun j hj => ?_⟩
    by_cases hji : j = i
    · subst hji
      exact hy.does hi hS ⟨hS, H⟩
    obtain ⟨hjun, oj, hoj, hall⟩ := mem_ready.1 hj
    have hnot : ∀ e ∈ oj.after, Region.binds md e = true → e.on ≠ i := fun e he hb heq => by
      have h1 := hall e he hb
      have h0 := (mem_ready.1 hr).1
      rw [heq] at h1
      rcases Nat.lt_or_ge i listed.size with h' | h'
      · simp [h'] at h0 h1; rw [h0] at h1; cases h1
      · simp [Array.getElem?_eq_none h'] at h1
    have h2 := Answers.swap hoj (hfree j oj hoj hji hjun hnot) (fun cs b => hsel i oi cs b hi) (fun cs b => hsel j oj cs b hoj) hQ hy (H.2 j (ready_mono hj hji))
    refine wpOp_mono (fun a' w' h3 => ⟨h3.2.1, ih (listed.setIfInBounds j true) a' w' ?_ (ready_mono hr (Ne.symm hji)) h3.1 h3.2.1 ?_⟩) h2
    · intro k ok hk hki hun hno
      refine hfree k ok hk hki ?_ hno
      by_cases hjk : j = k
      · subst hjk; exact hjun
      · rw [getD_set_ne true hjk] at hun; exact hun
    · rw [Array.setIfInBounds_comm _ _ hji]
      exact h3.2.2

/-- Number i is a call that only computes: it is taken first. -/
theorem take_call {i : Nat} {oi : Oper} {v : Value} {fuel : Nat} {listed : Array Bool} {a : Act} {w : World} (hi : ops[i]? = some oi)
    (hs : Region.noSelect ops = true) (hf : Region.free md ops listed i = true) (hr : (Region.ready md ops listed).contains i = true)
    (hQ : ∀ c a w, Q (.panic c) (a.put oi.dst v) w → Q (.panic c) a w) (hy : Answers P ops S oi v a) (hS : S w)
    (h : wpAnyH P md ops Q S fuel (listed.setIfInBounds i true) (a.put oi.dst v) w) : wpAnyH P md ops Q S (fuel + 1) listed a w :=
  Answers.first hi (Region.noSelect_spec hs) hQ fuel listed a w (Region.free_spec hi hf) (by simpa using hr) hy hS h
end
end Go.Proofs.Ytabfbgkablbeeaa
