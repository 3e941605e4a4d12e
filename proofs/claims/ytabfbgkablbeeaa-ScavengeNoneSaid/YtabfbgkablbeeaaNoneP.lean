/- Layer 15, plain: a world of young objects, without roots. -/
import Derived.Test.YtabfbgkablbeeaaG43
import Derived.Test.YtabfbgkablbeeaaG41
set_option linter.all false

namespace Go.Proofs.Ytabfbgkablbeeaa
open Go.RowKit

theorem lay_no0 (s : Lw) (C : Nat → Cl) (m : Nat) (E : Nat → Int) (cl ag wh da : Int) (h : wh % 4 ≠ 3) : (s.lay C m E cl ag wh da).t 0 = s.t 0 ∧ (s.lay C m E cl ag wh da).g 0 = s.g 0 := by
  have hr : ¬ (0 = regW wh) := by
    unfold regW; rw [if_neg h]; split <;> omega
  unfold Lw.lay
  split
  · exact ⟨rfl, rfl⟩
  · exact ⟨if_neg hr, if_neg hr⟩
theorem layN_no0 {m : Nat} {C : Nat → Cl} {half : Int} {T : Nat → Tg} : ∀ k, (∀ i, i < k → (T i).wh % 4 ≠ 3) → (layN C m half T k).t 0 = 1 ∧ (layN C m half T k).g 0 = []
  | 0, _ => ⟨by show beg15 half 0 = 1; unfold beg15; simp, rfl⟩
  | k + 1, h => by
    obtain ⟨h1, h2⟩ := layN_no0 (m := m) (C := C) (half := half) k (fun i hi => h i (by omega))
    obtain ⟨e1, e2⟩ := lay_no0 (layN C m half T k) C m (end15 half) (T k).cl (T k).ag (T k).wh (T k).da (h k (by omega))
    exact ⟨e1.trans h1, e2.trans h2⟩
theorem wd15_no0 {m : Nat} {C : Nat → Cl} {nt nr : Nat} {T : Nat → Tg} {R : Nat → Int} {s0 : Int} (h : ∀ i, i < nt → (T i).wh % 4 ≠ 3) : (wd15 m C nt T nr R s0).t 0 = 1 ∧ (wd15 m C nt T nr R s0).g 0 = [] := by
  obtain ⟨e1, e2, e3⟩ := refN_t (n := 1000) (m := m) (C := C) (R := rgF R) (s := layN C m (s0 % 101) T nt) nr
  unfold wd15
  rw [e1, e2]
  exact layN_no0 nt h
/-- Spaces without an object are a heap. -/
theorem HW.none_ {n m : Nat} {C : Nat → Cl} {f : Nat → Int} {L : Nat → Sp} (hC : ∀ j, j < m → (C j).ok) (h4 : n ≤ 4095) (hb : ∀ j, j < 3 → 1 ≤ (L j).f ∧ (L j).t = (L j).f ∧ (L j).t ≤ (L j).e ∧ (L j).e ≤ n) (hs : ∀ i j, i < 3 → j < 3 → i ≠ j → (L i).e ≤ (L j).f ∨ (L j).e ≤ (L i).f) : HW n m C f L (fun _ => []) :=
  ⟨hC, h4, fun j hj => by have := hb j hj; omega, hs, fun j hj => by rw [(hb j hj).2.1]; exact .nil _, fun a ha => by obtain ⟨_, _, hx⟩ := ha; cases hx⟩
/-- The spaces behind a run in which nothing goes on. -/
def nxN (y : Nat → Sp) : Nat → Sp := fun j => if j = 0 then y 0 else if j = 1 then emp (y 1) else if j = 2 then y 3 else emp (y 2)
theorem nxN_eq (y : Nat → Sp) (f : Nat → Int) : (fun j => if j = 3 then emp (y 2) else nxL y ⟨f, y 3, y 0⟩ j) = fun j => if j = 3 then emp (y 2) else if j = 0 then y 0 else if j = 1 then emp (y 1) else y 3 := rfl
structure NoneY (n : Nat) (y : Nat → Sp) (thr : Int) : Prop where
  ry : RightY n y thr
  t0 : (y 0).t = (y 0).f
  e0 : (y 0).e ≤ 401
  room : usedY y ≤ (y 0).e - (y 0).t
theorem NoneY.next {n : Nat} {y : Nat → Sp} {thr : Int} (h : NoneY n y thr) {z : Nat → Sp} (z0 : z 0 = y 0) (z1 : z 1 = emp (y 1)) (z2 : z 2 = y 3) (z3 : z 3 = emp (y 2)) : NoneY n z thr ∧ (∀ j, j < 3 → 1 ≤ (z j).f ∧ (z j).t = (z j).f ∧ (z j).t ≤ (z j).e ∧ (z j).e ≤ n) ∧ (∀ i j, i < 3 → j < 3 → i ≠ j → (z i).e ≤ (z j).f ∨ (z j).e ≤ (z i).f) ∧ ToOk n z (z 3) := by
  have o := fun i hi => h.ry.one i hi
  have q : ∀ i, i < 4 → 0 ≤ (y i).f ∧ (y i).f ≤ (y i).t ∧ (y i).t ≤ (y i).e ∧ (y i).e ≤ 4096 := fun i hi => (rightB_iff _).1 (o i hi).1
  have q0 := q 0 (by omega)
  have q1 := q 1 (by omega)
  have q2 := q 2 (by omega)
  have q3 := q 3 (by omega)
  have b0 := (o 0 (by omega)).2
  have b1 := (o 1 (by omega)).2
  have b2 := (o 2 (by omega)).2
  have b3 := (o 3 (by omega)).2
  have w10 := h.ry.two 1 0 (by omega) (by omega)
  have w20 := h.ry.two 2 0 (by omega) (by omega)
  have w30 := h.ry.two 3 0 (by omega) (by omega)
  have w21 := h.ry.two 2 1 (by omega) (by omega)
  have w31 := h.ry.two 3 1 (by omega) (by omega)
  have w32 := h.ry.two 3 2 (by omega) (by omega)
  have u := h.ry.used
  have r := h.ry.room
  have t0 := h.t0
  have e1f : (z 1).f = (y 1).f := by rw [z1]; rfl
  have e1t : (z 1).t = (y 1).f := by rw [z1]; rfl
  have e1e : (z 1).e = (y 1).e := by rw [z1]; rfl
  have e3f : (z 3).f = (y 2).f := by rw [z3]; rfl
  have e3t : (z 3).t = (y 2).f := by rw [z3]; rfl
  have e3e : (z 3).e = (y 2).e := by rw [z3]; rfl
  have hsep : ∀ i j, i < 4 → j < 4 → i ≠ j → (z i).e ≤ (z j).f ∨ (z j).e ≤ (z i).f := fun i j hi hj hne => by
    rcases (by omega : i = 0 ∨ i = 1 ∨ i = 2 ∨ i = 3) with rfl | rfl | rfl | rfl <;> rcases (by omega : j = 0 ∨ j = 1 ∨ j = 2 ∨ j = 3) with rfl | rfl | rfl | rfl <;> first | (exact absurd rfl hne) | (rw [z0, z2]; omega) | (rw [z0]; omega) | (rw [z2, z0]; omega) | (rw [z2]; omega) | omega
  have hone : ∀ i, i < 4 → rightB (z i) = true ∧ 1 ≤ (z i).f ∧ (z i).e ≤ n ∧ (z i).t = (z i).f := fun i hi => by
    rcases (by omega : i = 0 ∨ i = 1 ∨ i = 2 ∨ i = 3) with rfl | rfl | rfl | rfl
    · rw [z0]; exact ⟨(o 0 (by omega)).1, b0.1, b0.2, t0⟩
    · exact ⟨(rightB_iff _).2 (by omega), by omega, by omega, by omega⟩
    · rw [z2]; exact ⟨(o 3 (by omega)).1, b3.1, b3.2, u⟩
    · exact ⟨(rightB_iff _).2 (by omega), by omega, by omega, by omega⟩
  refine ⟨⟨⟨fun i hi => ⟨(hone i hi).1, (hone i hi).2.1, (hone i hi).2.2.1⟩, fun i j hji hi => hsep i j hi (by omega) (by omega), (hone 3 (by omega)).2.2.2, ?_, h.ry.th⟩, by rw [z0]; exact t0, by rw [z0]; exact h.e0, ?_⟩, fun j hj => ?_, fun i j hi hj => hsep i j (by omega) (by omega), ?_, fun j hj => hsep j 3 (by omega) (by omega) (by omega)⟩
  · rw [e3e, e3t, z2]; omega
  · unfold usedY; rw [e1t, e1f, z2, z0]; omega
  · obtain ⟨a1, a2, a3, a4⟩ := hone j (by omega)
    have := (rightB_iff _).1 a1
    exact ⟨a2, a4, this.2.2.1, a3⟩
  · obtain ⟨a1, a2, a3, a4⟩ := hone 3 (by omega)
    have := (rightB_iff _).1 a1
    exact ⟨a2, a4, by omega, a3⟩
theorem none_y {half thr : Int} {s : Lw} {m : Nat} {C : Nat → Cl} (ok : LwOk 1000 m C (beg15 half) (end15 half) s) (h3 : s.t 3 = 601 + half) (hh : 0 ≤ half ∧ half ≤ 100) (ht : 0 ≤ thr ∧ thr ≤ 7) (h0 : s.t 0 = 1) : NoneY 1000 (s.sp (beg15 half) (end15 half)) thr := by
  have b1 : 1 ≤ beg15 half 1 ∧ beg15 half 1 ≤ s.t 1 ∧ s.t 1 ≤ end15 half 1 ∧ end15 half 1 ≤ (1000 : Nat) := ok.hw.bd 1 (by omega)
  have b2 : 1 ≤ beg15 half 2 ∧ beg15 half 2 ≤ s.t 2 ∧ s.t 2 ≤ end15 half 2 ∧ end15 half 2 ≤ (1000 : Nat) := ok.hw.bd 2 (by omega)
  refine ⟨LwOk.rightY ok hh h3 ht, ?_, ?_, ?_⟩
  · show s.t 0 = beg15 half 0; rw [h0]; unfold beg15; simp
  · show end15 half 0 ≤ 401; unfold end15; simp
  · show s.t 1 - beg15 half 1 + (s.t 2 - beg15 half 2) ≤ end15 half 0 - s.t 0
    unfold beg15 end15 at *
    simp at *
    omega

end Go.Proofs.Ytabfbgkablbeeaa
