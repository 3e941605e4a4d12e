/- Layer 15, plain: what a run makes of its roots; with more roots nothing less goes on. -/
import Derived.Test.YtabfbgkablbeeaaG21
import Derived.Test.YtabfbgkablbeeaaG22
import Derived.Test.YtabfbgkablbeeaaG34
import Derived.Test.YtabfbgkablbeeaaG40
set_option linter.all false

namespace Go.Proofs.Ytabfbgkablbeeaa
open Go.RowKit

theorem wsumF_mono {K φ ψ : Int → Int} : ∀ {l : List Int}, (∀ a, a ∈ l → 0 ≤ K a) → (∀ a, a ∈ l → φ a ≠ 0 → ψ a ≠ 0) → wsumF K φ l ≤ wsumF K ψ l
  | [], _, _ => Int.le_refl _
  | a :: l, h, h2 => by
    have ih := wsumF_mono (K := K) (φ := φ) (ψ := ψ) (l := l) (fun x hx => h x (List.mem_cons_of_mem _ hx)) (fun x hx => h2 x (List.mem_cons_of_mem _ hx))
    have ha := h a (List.mem_cons_self ..)
    have hb := h2 a (List.mem_cons_self ..)
    unfold wsumF at *
    rw [List.map_cons, List.map_cons, List.sum_cons, List.sum_cons]
    by_cases e : φ a = 0
    · rw [if_pos e]; split <;> omega
    · rw [if_neg e, if_neg (hb e)]; omega
section
variable {n m : Nat} {C : Nat → Cl} {f : Nat → Int} {y : Nat → Sp} {G : Nat → List Int} {thr : Int}
/-- What a run does. -/
theorem run_facts (H : HW n m C f y G) (hT : ToOk n y (y 3)) (hroom : ¬ (y 0).e - (y 0).t < usedY y) (hnd : (G 0).Nodup) {rl : List Int} (hr : ∀ x, x ∈ rl → x = 0 ∨ inG G x) {s' : Sc} {out : List Int}
    (h : RunScv n m C (frF f (G 1 ++ G 2)) (ygB (y 1) (y 2)) thr (y 3) (y 0) (G 0) rl s' out) :
    ∃ φ : Int → Int, out = rl.map (fm φ) ∧ (∀ x, x ∈ rl → (fm φ x = 0 ↔ x = 0)) ∧ (∀ x, x ∈ rl → x ∈ G 0 → fm φ x = x) ∧ (∀ x z, x ∈ rl → z ∈ rl → (fm φ x = fm φ z ↔ x = z)) ∧
      (s'.tt.f = (y 3).f ∧ s'.od.f = (y 0).f ∧ rightB s'.tt = true ∧ rightB s'.od = true ∧ (s'.tt.t - (y 3).f) + (s'.od.t - (y 0).t) = wsumF (oK n m C (frF f (G 1 ++ G 2))) φ (G 1 ++ G 2)) ∧
      (∀ x, x ∈ rl → x ∈ G 1 ++ G 2 → φ x ≠ 0) ∧ (∀ o, o ∈ G 0 ∨ φ o ≠ 0 → ∀ i : Nat, (i : Int) < oR n m C (frF f (G 1 ++ G 2)) o → frF f (G 1 ++ G 2) (o + 2 + i).toNat ∈ G 1 ++ G 2 → φ (frF f (G 1 ++ G 2) (o + 2 + i).toNat) ≠ 0) ∧
      (∀ P : Int → Prop, (∀ x, x ∈ rl → P x) → (∀ o, o ∈ G 0 → ∀ i : Nat, (i : Int) < oR n m C (frF f (G 1 ++ G 2)) o → P (frF f (G 1 ++ G 2) (o + 2 + i).toNat)) → (∀ o, P o → o ∈ G 1 ++ G 2 → ∀ i : Nat, (i : Int) < oR n m C (frF f (G 1 ++ G 2)) o → P (frF f (G 1 ++ G 2) (o + 2 + i).toNat)) → ∀ a, φ a ≠ 0 → P a) := by
  obtain ⟨hf1, hf2, HWf⟩ := H.fresh (G 1 ++ G 2) (fun a ha => HW.inG_of (.inl ha))
  have hfr : ∀ a, a ∈ G 1 ++ G 2 → (oH n m C (frF f (G 1 ++ G 2)) a).fwd = 0 := fun a ha => by
    show (atT n (frF f (G 1 ++ G 2)) m C a).1.hd.fwd = 0
    rw [hf1 a (HW.inG_of (.inl ha)), if_pos ha]; rfl
  have V := HWf.wd hfr hT
  have hb0 := H.bd 0 (by omega)
  obtain ⟨b3a, b3b, b3c, b3d⟩ := hT.bd
  obtain ⟨φ, sn, LT, LO, I, A, L, ho, hmv, hs, hcl⟩ := run_scv V (HWf.yg (by unfold usedY at hroom; omega)) HWf.hcl ⟨b3b, b3c⟩ (by omega) hnd (fun x hx => (hr x hx).imp_right HW.of_inG) h
  have hin : ∀ x, x ∈ rl → x = 0 ∨ (x ∈ G 0 ∨ φ x ≠ 0) := fun x hx => by
    rcases hr x hx with h | h
    · exact .inl h
    · rcases HW.of_inG h with h | h
      · exact .inr (.inr (hmv x hx h))
      · exact .inr (.inl h)
  have h0 : fm φ 0 = 0 := by unfold fm; rw [if_pos (I.phi0 V)]
  have hz : ∀ x, x ∈ rl → (fm φ x = 0 ↔ x = 0) := fun x hx => by
    constructor
    · intro e
      rcases hin x hx with h | h
      · exact h
      · have := I.fm1 V h; omega
    · rintro rfl; exact h0
  obtain ⟨t1, t2, t3, t4⟩ := I.to_
  obtain ⟨u1, u2, u3, u4⟩ := I.old_
  have hn4 := H.n4
  refine ⟨φ, ho, hz, fun x _ hx => (I.fmD V hx).2, fun x z hx hzz => ⟨fun e => ?_, fun e => by rw [e]⟩, ⟨t1, u1, (rightB_iff _).2 (by omega), (rightB_iff _).2 (by omega), A⟩, hmv, fun o ho i hi hy => ?_, hcl⟩
  · rcases hin x hx with h | h
    · subst h; rw [h0] at e; exact ((hz z hzz).1 e.symm).symm
    · rcases hin z hzz with h' | h'
      · subst h'; rw [h0] at e; exact (hz x hx).1 e
      · by_cases hne : x = z
        · exact hne
        · have := I.apart V h h' hne
          have k1 := V.obj x (h.elim .inr (fun h => .inl (I.phi x h)))
          have k2 := V.obj z (h'.elim .inr (fun h => .inl (I.phi z h)))
          omega
  · exact I.scd o ho i (by rw [hs o ho]; omega) _ rfl hy
/-- With more roots nothing less goes on. -/
theorem run_more (H : HW n m C f y G) (hT : ToOk n y (y 3)) (hroom : ¬ (y 0).e - (y 0).t < usedY y) (hnd : (G 0).Nodup) {rl rl' : List Int} (hr : ∀ x, x ∈ rl' → x = 0 ∨ inG G x) (hsub : ∀ x, x ∈ rl → x ∈ rl') {s s' : Sc} {out out' : List Int}
    (h : RunScv n m C (frF f (G 1 ++ G 2)) (ygB (y 1) (y 2)) thr (y 3) (y 0) (G 0) rl s out) (h' : RunScv n m C (frF f (G 1 ++ G 2)) (ygB (y 1) (y 2)) thr (y 3) (y 0) (G 0) rl' s' out') :
    (s.od.t - s.od.f) + (s.tt.t - s.tt.f) ≤ (s'.od.t - s'.od.f) + (s'.tt.t - s'.tt.f) := by
  obtain ⟨φ, _, _, _, _, ⟨e1, e2, _, _, e3⟩, _, _, hP⟩ := run_facts H hT hroom hnd (fun x hx => hr x (hsub x hx)) h
  obtain ⟨ψ, _, _, _, _, ⟨d1, d2, _, _, d3⟩, hm, hc, _⟩ := run_facts H hT hroom hnd hr h'
  have hle : ∀ a, φ a ≠ 0 → a ∈ G 1 ++ G 2 → ψ a ≠ 0 := hP (fun a => a ∈ G 1 ++ G 2 → ψ a ≠ 0) (fun x hx hy => hm x (hsub x hx) hy) (fun o ho i hi hy => hc o (.inl ho) i hi hy) (fun o hp hy i hi hyy => hc o (.inr (hp hy)) i hi hyy)
  obtain ⟨_, _, HWf⟩ := H.fresh (G 1 ++ G 2) (fun a ha => HW.inG_of (.inl ha))
  have hk : ∀ a, a ∈ G 1 ++ G 2 → 0 ≤ oK n m C (frF f (G 1 ++ G 2)) a := fun a ha => by
    obtain ⟨k, hk, hak⟩ := HW.inG_of (G := G) (.inl ha)
    obtain ⟨_, _, _, q1, q2, _⟩ := HWf.obj hk hak
    omega
  have := wsumF_mono hk (fun a ha h => hle a h ha)
  omega
end
theorem Tl.nodup' {T : Int → Th × Int} {a z : Int} {l : List Int} (h : Tl T a z l) : l.Nodup := by
  induction h with
  | nil => exact List.nodup_nil
  | cons h1 h2 h3 h4 ih =>
    refine List.nodup_cons.2 ⟨fun hx => ?_, ih⟩
    have := h4.bd _ hx
    omega
/-- An old object of a world lies in Old. -/
theorem old_g0 {m : Nat} {C : Nat → Cl} {half : Int} {s : Lw} (H : LwOk 1000 m C (beg15 half) (end15 half) s) {x : Int} (hx : x ∈ s.at_) (ho : oldB x = true) : x ∈ s.g 0 := by
  obtain ⟨k, hk, hm⟩ := (H.mem x).1 hx
  obtain ⟨_, _, _, q1, q2, q3, q4, q5, q6, _⟩ := H.hw.obj hk hm
  have hlt : x < 401 := by unfold oldB at ho; simp at ho; exact ho.2
  have q5' : beg15 half k ≤ x := q5
  by_cases e : k = 0
  · subst e; exact hm
  · exfalso
    unfold beg15 at q5'
    rw [if_neg e] at q5'
    split at q5'
    · omega
    · rw [if_pos (by omega)] at q5'; omega

end Go.Proofs.Ytabfbgkablbeeaa
