/- The law HandleOnce in plain words: which handles were told, and which of these are gone. -/
import Derived.Test.YtnjjecojedlccaaHan5
import Derived.Test.YtnjjecojedlccaaSet
namespace Go.Proofs.Ytnjjecojedlccaa
open Go.RowKit

def onT (T : Nat → Pl) (h : Int) : Bool := (findT T h).isSome
def at_ (h : Int) : Nat := ((h - 1) % 64).toNat
theorem at_lt (h : Int) : at_ h < 64 := by unfold at_; omega
theorem at_hnd (p : Pl) {i : Nat} (hi : i < 64) : at_ (hnd p i) = i := by unfold at_ hnd; omega
theorem hnd_inj {p p' : Pl} {i : Nat} (h : hnd p i = hnd p' i) : p.n = p'.n := by unfold hnd at h; omega
theorem onT_eq (T : Nat → Pl) (h : Int) : onT T h = decide (1 ≤ h ∧ (T (at_ h)).on = true ∧ hnd (T (at_ h)) (at_ h) = h) := by
  unfold onT findT at_
  split
  · rename_i e; simp [e]
  · rename_i e; simp [e]
theorem onT_iff {T : Nat → Pl} {h : Int} : onT T h = true ↔ 1 ≤ h ∧ (T (at_ h)).on = true ∧ hnd (T (at_ h)) (at_ h) = h := by
  rw [onT_eq]; simp
theorem errE_eq (T : Nat → Pl) (h : Int) : errE T h = if onT T h then 0 else 6 := by
  unfold errE onT
  cases findT T h <;> rfl
theorem drop_off {T : Nat → Pl} {h : Int} (e : onT T h = false) : dropT T h = T := by
  unfold onT at e
  unfold dropT
  cases k : findT T h with
  | none => rfl
  | some i => rw [k] at e; cases e
theorem set_off {T : Nat → Pl} {h x : Int} (e : onT T h = false) : setX T h x = T := by
  unfold onT at e
  unfold setX
  cases k : findT T h with
  | none => rfl
  | some i => rw [k] at e; cases e
theorem allK_set (T : Nat → Pl) (i : Nat) (p : Pl) (K : Nat) :
    (allK (setT T i p) K).length + (if i < K ∧ (T i).on = true then 1 else 0) = (allK T K).length + (if i < K ∧ p.on = true then 1 else 0) := by
  induction K with
  | zero => simp [allK]
  | succ K ih =>
    rw [allK_step, allK_step]
    by_cases e : K = i
    · subst e
      have e1 : setT T K p K = p := by simp [setT]
      rw [e1]
      simp at ih ⊢
      omega
    · have e1 : setT T i p K = T K := by simp [setT, e]
      have e2 : i < K + 1 ↔ i < K := by omega
      rw [e1]
      simp only [e2]
      omega
theorem mem_on {T : Nat → Pl} {N : Int} (hw : WF T N) {v : Int} (h : v ∈ allT T) : onT T v = true := by
  obtain ⟨i, hi, ho, rfl⟩ := allT_mem.1 h
  obtain ⟨_, _, h2⟩ := hw.2 i hi
  have := h2 ho
  rw [onT_iff, at_hnd _ hi]
  exact ⟨by unfold hnd; omega, ho, rfl⟩

structure Once (T : Nat → Pl) (S G : Int → Bool) (cs cg : Nat) : Prop where
  s : ∀ h, S h = (onT T h || G h)
  g : ∀ h, G h = true → onT T h = false
  old : ∀ h, G h = true → 1 ≤ h ∧ h ≤ hnd (T (at_ h)) (at_ h)
  n : cs = cg + (allT T).length

theorem Once.start : Once T0 (fun _ => false) (fun _ => false) 0 0 :=
  ⟨fun h => by rw [onT_eq]; simp [T0], fun h e => (by cases e), fun h e => (by cases e), by decide⟩

theorem Once.new {T : Nat → Pl} {S G : Int → Bool} {cs cg : Nat} (h : Once T S G cs cg) (x : Int) {i : Nat} (hf : freeT T 64 0 = some i) (hn : 0 ≤ (T i).n) :
    S (newA T) = false ∧ 1 ≤ newA T ∧ Once (newT T x) (putB S (newA T)) G (cs + 1) cg := by
  obtain ⟨_, hi, hoff, _⟩ := freeT_lt _ _ _ hf
  have hi : i < 64 := by omega
  have eA : newA T = hnd ⟨(T i).n + 1, true, x⟩ i := by simp [newA, hf, hnd]
  have eT : newT T x = setT T i ⟨(T i).n + 1, true, x⟩ := by simp [newT, hf]
  rw [eA, eT]
  have hat : at_ (hnd ⟨(T i).n + 1, true, x⟩ i) = i := at_hnd _ hi
  have hv1 : 1 ≤ hnd ⟨(T i).n + 1, true, x⟩ i := by unfold hnd; simp only []; omega
  have hgt : hnd (T i) i < hnd ⟨(T i).n + 1, true, x⟩ i := by unfold hnd; simp only []; omega
  generalize hv : hnd ⟨(T i).n + 1, true, x⟩ i = v at *
  have hon0 : onT T v = false := by rw [onT_eq, hat, hoff]; simp
  have hg0 : G v = false := by
    cases hg : G v with
    | false => rfl
    | true =>
      have := (h.old v hg).2
      rw [hat] at this
      omega
  have hon : ∀ y, onT (setT T i ⟨(T i).n + 1, true, x⟩) y = (decide (y = v) || onT T y) := fun y => by
    rw [onT_eq, onT_eq]
    by_cases e : at_ y = i
    · rw [e, hoff]
      have e1 : setT T i ⟨(T i).n + 1, true, x⟩ i = ⟨(T i).n + 1, true, x⟩ := by simp [setT]
      rw [e1, hv]
      by_cases e2 : y = v
      · subst e2; simp [hv1]
      · have e3 : ¬ v = y := fun k => e2 k.symm
        simp [e2, e3]
    · have e1 : setT T i ⟨(T i).n + 1, true, x⟩ (at_ y) = T (at_ y) := by simp [setT, e]
      rw [e1]
      have e2 : ¬ y = v := fun k => e (by rw [k, hat])
      simp [e2]
  refine ⟨by rw [h.s, hon0, hg0]; rfl, hv1, fun y => ?_, fun y hy => ?_, fun y hy => ?_, ?_⟩
  · rw [hon, putB]
    by_cases e : y = v
    · simp [e]
    · simp [e, h.s]
  · rw [hon, h.g y hy]
    have : ¬ y = v := fun k => by rw [k, hg0] at hy; cases hy
    simp [this]
  · obtain ⟨a, b⟩ := h.old y hy
    refine ⟨a, ?_⟩
    by_cases e : at_ y = i
    · rw [e] at b ⊢
      have e1 : setT T i ⟨(T i).n + 1, true, x⟩ i = ⟨(T i).n + 1, true, x⟩ := by simp [setT]
      rw [e1, hv]
      omega
    · have e1 : setT T i ⟨(T i).n + 1, true, x⟩ (at_ y) = T (at_ y) := by simp [setT, e]
      rw [e1]
      exact b
  · have := allK_set T i ⟨(T i).n + 1, true, x⟩ 64
    have e := h.n
    simp [hi, hoff] at this
    unfold allT at *
    omega

theorem Once.full {T : Nat → Pl} (hf : freeT T 64 0 = none) : (allT T).length = 64 := by
  have hon : ∀ j, j < 64 → (T j).on = true := fun j hj => by
    cases e : (T j).on with
    | true => rfl
    | false =>
      have key : ∀ k i, i ≤ j → j < i + k → freeT T k i ≠ none := by
        intro k
        induction k with
        | zero => intro i h1 h2; omega
        | succ k ih =>
          intro i h1 h2
          unfold freeT
          by_cases e2 : (T i).on = true
          · rw [if_pos e2]
            exact ih (i + 1) (by
              rcases Nat.lt_or_eq_of_le h1 with h3 | h3
              · omega
              · subst h3; rw [e] at e2; cases e2) (by omega)
          · rw [if_neg e2]; simp
      exact absurd hf (key 64 0 (by omega) (by omega))
  have : ∀ K, K ≤ 64 → (allK T K).length = K := by
    intro K
    induction K with
    | zero => intro _; rfl
    | succ K ih => intro h; rw [allK_step, ih (by omega), hon K (by omega)]; rfl
  exact this 64 (Nat.le_refl _)

theorem Once.drop {T : Nat → Pl} {S G : Int → Bool} {cs cg : Nat} (h : Once T S G cs cg) {v : Int} (hv : onT T v = true) :
    G v = false ∧ errE T v = 0 ∧ Once (dropT T v) S (putB G v) cs (cg + 1) := by
  have hg0 : G v = false := by
    cases hg : G v with
    | false => rfl
    | true => rw [h.g v hg] at hv; cases hv
  have he : errE T v = 0 := by rw [errE_eq, hv]; rfl
  obtain ⟨v1, v2, v3⟩ := onT_iff.1 hv
  have hf : findT T v = some (at_ v) := by
    unfold findT
    exact if_pos ⟨v1, v2, v3⟩
  have eT : dropT T v = setT T (at_ v) ⟨(T (at_ v)).n, false, 0⟩ := by simp [dropT, hf]
  rw [eT]
  have hon : ∀ y, onT (setT T (at_ v) ⟨(T (at_ v)).n, false, 0⟩) y = (!decide (y = v) && onT T y) := fun y => by
    rw [onT_eq, onT_eq]
    by_cases e : at_ y = at_ v
    · rw [e]
      have e1 : setT T (at_ v) ⟨(T (at_ v)).n, false, 0⟩ (at_ v) = ⟨(T (at_ v)).n, false, 0⟩ := by simp [setT]
      rw [e1, v3]
      by_cases e2 : y = v
      · subst e2; simp
      · have e3 : ¬ v = y := fun k => e2 k.symm
        simp [e2, e3]
    · have e1 : setT T (at_ v) ⟨(T (at_ v)).n, false, 0⟩ (at_ y) = T (at_ y) := by simp [setT, e]
      rw [e1]
      have e2 : ¬ y = v := fun k => e (by rw [k])
      simp [e2]
  refine ⟨hg0, he, fun y => ?_, fun y hy => ?_, fun y hy => ?_, ?_⟩
  · rw [hon, putB, h.s]
    by_cases e : y = v
    · subst e; simp [hv]
    · simp [e]
  · rw [hon]
    unfold putB at hy
    by_cases e : y = v
    · simp [e]
    · rw [if_neg e] at hy
      rw [h.g y hy]; simp
  · have e1 : ∀ j, hnd (setT T (at_ v) ⟨(T (at_ v)).n, false, 0⟩ j) j = hnd (T j) j := fun j => by
      unfold setT
      split
      · rename_i k; subst k; rfl
      · rfl
    rw [e1]
    unfold putB at hy
    by_cases e : y = v
    · subst e; exact ⟨v1, by omega⟩
    · rw [if_neg e] at hy
      exact h.old y hy
  · have := allK_set T (at_ v) ⟨(T (at_ v)).n, false, 0⟩ 64
    have e := h.n
    simp [at_lt, v2] at this
    unfold allT at *
    omega
theorem Once.told {T : Nat → Pl} {S G : Int → Bool} {cs cg : Nat} (h : Once T S G cs cg) {v : Int} (hv : S v = true) : errE T v = if G v then 6 else 0 := by
  rw [errE_eq]
  cases hg : G v with
  | true => rw [h.g v hg]; rfl
  | false =>
    have := h.s v
    rw [hv, hg, Bool.or_false] at this
    rw [← this]; rfl
theorem Once.gone {T : Nat → Pl} {S G : Int → Bool} {cs cg : Nat} (h : Once T S G cs cg) {v : Int} (hv : G v = true) : errE T v = 6 ∧ dropT T v = T ∧ ∀ x, setX T v x = T := by
  have e := h.g v hv
  exact ⟨by rw [errE_eq, e]; rfl, drop_off e, fun x => set_off e⟩
theorem Once.mem {T : Nat → Pl} {S G : Int → Bool} {cs cg : Nat} {N : Int} (h : Once T S G cs cg) (hw : WF T N) {v : Int} (hv : v ∈ allT T) : S v = true := by
  rw [h.s, mem_on hw hv]; rfl

end Go.Proofs.Ytnjjecojedlccaa
