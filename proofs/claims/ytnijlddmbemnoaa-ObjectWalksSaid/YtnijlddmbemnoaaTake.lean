/- A region that draws its order: a call that only computes may be taken first, like a load. -/
import Derived.Test.YtnijlddmbemnoaaBase
import Derived.Deep.RegionHeld3
namespace Go.Proofs.Ytnijlddmbemnoaa
open Go Go.RowKit
section
variable {P : Program} {ops : Array Oper} {Q : Exit → Act → World → Prop} {md : Region.Mode} {S : World → Prop}

/-- In state a the operation calls a function that answers v in every world that meets S, and leaves that world alone. -/
def Answers (P : Program) (ops : Array Oper) (S : World → Prop) (o : Oper) (v : Value) (a : Act) : Prop :=
  Region.wanted o (yielded ops a.tmps) = true ∧ ∀ w, S w → ∃ f args, (execOp a.eval o).run P w = .ok (.enter f args) w ∧ Calls P f args w fun e w' => e = .returned v ∧ w = w'

theorem Answers.turn {o : Oper} {v : Value} {a a' : Act} (hy : Answers P ops S o v a) (he : execOp a'.eval o = execOp a.eval o)
    (hw : Region.wanted o (yielded ops a'.tmps) = Region.wanted o (yielded ops a.tmps)) : Answers P ops S o v a' := by
  obtain ⟨h1, h2⟩ := hy
  exact ⟨hw.trans h1, fun w hS => by rw [he]; exact h2 w hS⟩

theorem Answers.does {i : Nat} {o : Oper} {v : Value} {a : Act} (hi : ops[i]? = some o) (hy : Answers P ops S o v a)
    {K : Act → World → Prop} {w : World} (hS : S w) (h : K (a.put o.dst v) w) : wpOp P ops Q i K a w := by
  obtain ⟨h1, h2⟩ := hy
  obtain ⟨f, args, hr, hc⟩ := h2 w hS
  unfold Go.wpOp
  simp only [hi, h1, if_true, Oper.wp, hr, Oper.upon]
  refine .inl (hc.mono ?_)
  rintro e w' ⟨rfl, rfl⟩
  exact h

/-- Another operation, apart from it, may come ahead of it. -/
theorem Answers.swap {j : Nat} {oi oj : Oper} {v : Value} (hj : ops[j]? = some oj) (hap : oi.apart ops oj = true)
    (hsi : ∀ cs b, oi.op ≠ .select cs b) (hsj : ∀ cs b, oj.op ≠ .select cs b)
    (hQ : ∀ c a w, Q (.panic c) (a.put oi.dst v) w → Q (.panic c) a w) {K : Act → World → Prop} {a : Act} {w : World}
    (hy : Answers P ops S oi v a) (h : wpOp P ops Q j K (a.put oi.dst v) w) :
    wpOp P ops Q j (fun a' w' => Answers P ops S oi v a' ∧ K (a'.put oi.dst v) w') a w := by
  obtain ⟨p1, p2, p3⟩ := Oper.apart_spec hap
  have stay : ∀ (b : Act) (u : Value), Answers P ops S oi v b → Answers P ops S oi v (b.put oj.dst u) := fun b u hb =>
    hb.turn (execOp_put oi hsi b oj.dst u p3) (wanted_put oi b oj.dst u p3)
  have back : ∀ (b : Act) (u : Value), K ((b.put oi.dst v).put oj.dst u) = K ((b.put oj.dst u).put oi.dst v) := fun b u => by
    rw [Act.put_comm b v u p2]
  unfold wpOp at *
  simp only [hj] at *
  rw [wanted_put oj a oi.dst v p1] at h
  by_cases hw : Region.wanted oj (yielded ops a.tmps) = true
  · rw [if_pos hw] at h ⊢
    rcases h with h | ⟨h1, h2⟩
    · left
      unfold Oper.wp at *
      rw [execOp_put oj hsj a oi.dst v p1] at h
      cases hrun : (execOp a.eval oj).run P w with
      | ok n w' =>
        rw [hrun] at h
        cases n with
        | value u => exact ⟨stay a u hy, by have := back a u; simp only [Oper.upon] at h; rw [← this]; exact h⟩
        | skip => exact ⟨stay a _ hy, by have := back a undef; simp only [Oper.upon] at h; rw [← this]; exact h⟩
        | defer d =>
          simp only [Oper.upon] at h ⊢
          refine ⟨stay _ _ (hy.turn rfl rfl), ?_⟩
          rw [← Act.put_comm _ v undef p2, ← Act.put_defers]
          exact h
        | enter f args =>
          refine Calls.mono (h : Calls P f args w' _) fun e w'' he => ?_
          cases e with
          | returned u => exact ⟨stay a u hy, by have := back a u; rw [← this]; exact he⟩
          | panicked c => exact hQ _ _ _ he
          | outgrown => exact he
        | row r args => exact Rows.mono (h : Rows P r args w' _) fun u w'' he => ⟨stay a u hy, by have := back a u; rw [← this]; exact he⟩
        | _ => exact h.elim
      | halt x w' =>
        rw [hrun] at h
        cases x with
        | panic u => exact hQ _ _ _ h
        | _ => exact h.elim
    · right
      refine ⟨?_, h2⟩
      unfold Oper.asks at *
      rw [execOp_put oj hsj a oi.dst v p1] at h1
      exact h1
  · rw [if_neg hw] at h ⊢
    exact ⟨stay a undef hy, by rw [← back a undef]; exact h⟩

theorem Answers.first {i : Nat} {oi : Oper} {v : Value} (hi : ops[i]? = some oi) (hsel : ∀ (j : Nat) (o : Oper) cs b, ops[j]? = some o → o.op ≠ .select cs b)
    (hQ : ∀ c a w, Q (.panic c) (a.put oi.dst v) w → Q (.panic c) a w) (fuel : Nat) :
    ∀ (listed : Array Bool) (a : Act) (w : World),
      (∀ j oj, ops[j]? = some oj → j ≠ i → listed.getD j true = false → (∀ e ∈ oj.after, Region.binds md e = true → e.on ≠ i) → oi.apart ops oj = true) →
      i ∈ Region.ready md ops listed → Answers P ops S oi v a → S w →
      wpAnyH P md ops Q S fuel (listed.setIfInBounds i true) (a.put oi.dst v) w → wpAnyH P md ops Q S (fuel + 1) listed a w := by
  induction fuel with
  | zero =>
    intro listed a w _ hr hy hS H
    refine ⟨fun h => (by rw [h] at hr; cases hr), fun j hj => ?_⟩
    by_cases hji : j = i
    · subst hji
      exact hy.does hi hS ⟨hS, H⟩
    · have h0 := ready_mono hj hji
      rw [H.1] at h0
      cases h0
  | succ fuel ih =>
    intro listed a w hfree hr hy hS H
    refine ⟨fun h => (by rw [h] at hr; cases hr), fun j hj => ?_⟩
    by_cases hji : j = i
    · subst hji
      exact hy.does hi hS ⟨hS, H⟩
    obtain ⟨hjun, oj, hoj, hall⟩ := mem_ready.1 hj
    have hnot : ∀ e ∈ oj.after, Region.binds md e = true → e.on ≠ i := fun e he hb heq => by
      have h1 := hall e he hb
      have h0 := (mem_ready.1 hr).1
      rw [heq] at h1
      rcases Nat.lt_or_ge i listed.size with h' | h'
      · simp [h'] at h0 h1; rw [h0] at h1; cases h1
      · simp [Array.getElem?_eq_none h'] at h1
    have h2 := Answers.swap hoj (hfree j oj hoj hji hjun hnot) (fun cs b => hsel i oi cs b hi) (fun cs b => hsel j oj cs b hoj) hQ hy (H.2 j (ready_mono hj hji))
    refine wpOp_mono (fun a' w' h3 => ⟨h3.2.1, ih (listed.setIfInBounds j true) a' w' ?_ (ready_mono hr (Ne.symm hji)) h3.1 h3.2.1 ?_⟩) h2
    · intro k ok hk hki hun hno
      refine hfree k ok hk hki ?_ hno
      by_cases hjk : j = k
      · subst hjk; exact hjun
      · rw [getD_set_ne true hjk] at hun; exact hun
    · rw [Array.setIfInBounds_comm _ _ hji]
      exact h3.2.2

/-- Number i is a call that only computes: it is taken first. -/
theorem take_call {i : Nat} {oi : Oper} {v : Value} {fuel : Nat} {listed : Array Bool} {a : Act} {w : World} (hi : ops[i]? = some oi)
    (hs : Region.noSelect ops = true) (hf : Region.free md ops listed i = true) (hr : (Region.ready md ops listed).contains i = true)
    (hQ : ∀ c a w, Q (.panic c) (a.put oi.dst v) w → Q (.panic c) a w) (hy : Answers P ops S oi v a) (hS : S w)
    (h : wpAnyH P md ops Q S fuel (listed.setIfInBounds i true) (a.put oi.dst v) w) : wpAnyH P md ops Q S (fuel + 1) listed a w :=
  Answers.first hi (Region.noSelect_spec hs) hQ fuel listed a w (Region.free_spec hi hf) (by simpa using hr) hy hS h
end
end Go.Proofs.Ytnijlddmbemnoaa
