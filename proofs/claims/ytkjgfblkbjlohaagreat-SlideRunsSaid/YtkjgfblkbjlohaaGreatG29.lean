/- Layer 16's worlds, plain: objects and gaps that are laid into three spaces, one behind the other. -/
import Derived.Test.YtkjgfblkbjlohaaGreatG24
import Derived.Test.YtkjgfblkbjlohaaGreatG23
import Derived.Test.YtkjgfblkbjlohaaGreatG18
import Derived.Test.YtkjgfblkbjlohaaGreatG12
import Derived.Test.YtkjgfblkbjlohaaGreatG27
import Derived.Test.YtkjgfblkbjlohaaGreatG28
set_option linter.all false

namespace Go.Proofs.YtkjgfblkbjlohaaGreat
open Go.RowKit

/-- What is walked through lies side by side. -/
theorem WalkR.sep {n m : Nat} {f : Nat → Int} {C : Nat → Cl} (hC : ∀ j, j < m → (C j).ok) {z a : Int} {X : List Int} {e : Int} (h : WalkR (atT n f m C) z a X e) :
    (∀ x, x ∈ X → a ≤ x ∧ x + (atT n f m C x).1.words ≤ z) ∧ ∀ x, x ∈ X → ∀ y, y ∈ X → x < y → x + (atT n f m C x).1.words ≤ y := by
  induction h with
  | done h1 => exact ⟨fun x hx => (by cases hx), fun x hx => (by cases hx)⟩
  | err h1 h2 => exact ⟨fun x hx => (by cases hx), fun x hx => (by cases hx)⟩
  | far h1 h2 h3 => exact ⟨fun x hx => (by cases hx), fun x hx => (by cases hx)⟩
  | step h1 h2 h3 h4 ih =>
    rename_i a L e
    obtain ⟨k1, k2, k3, _⟩ := at_ok hC h2
    by_cases he : e = 0
    · rw [if_pos he]
      cases hi : (atT n f m C a).1.is with
      | false =>
        rw [if_neg (by decide)]
        exact ⟨fun x hx => ⟨by have := (ih.1 x hx).1; omega, (ih.1 x hx).2⟩, ih.2⟩
      | true =>
        rw [if_pos rfl]
        refine ⟨fun x hx => ?_, fun x hx y hy hxy => ?_⟩
        · rcases List.mem_cons.1 hx with rfl | hx
          · omega
          · exact ⟨by have := (ih.1 x hx).1; omega, (ih.1 x hx).2⟩
        · rcases List.mem_cons.1 hx with hx1 | hx1
          · rcases List.mem_cons.1 hy with hy1 | hy1
            · omega
            · rw [hx1]; exact (ih.1 y hy1).1
          · rcases List.mem_cons.1 hy with hy1 | hy1
            · have := (ih.1 x hx1).1; omega
            · exact ih.2 x hx1 y hy1 hxy
    · rw [if_neg he]
      exact ⟨fun x hx => (by cases hx), fun x hx => (by cases hx)⟩
/-- What Run asks ahead of all. -/
structure RunPre (L : Nat → Sp) (q n : Nat) (S : Nat → Int) (mm : Nat) : Prop where
  rise : Rise L q
  ends : ∀ j, j < q → (L j).e ≤ n
  stay : ∀ i, i + 1 < mm → S i < S (i + 1)
theorem stay_lt {S : Nat → Int} {mm : Nat} (h : ∀ i, i + 1 < mm → S i < S (i + 1)) : ∀ d i, i + 1 + d < mm → S i < S (i + 1 + d)
  | 0, i, hi => h i hi
  | d + 1, i, hi => by
    have h1 := stay_lt h d i (by omega)
    have h2 := h (i + 1 + d) (by omega)
    rw [show i + 1 + (d + 1) = i + 1 + d + 1 by omega]; omega
theorem stay_mono {S : Nat → Int} {mm : Nat} (h : ∀ i, i + 1 < mm → S i < S (i + 1)) {i j : Nat} (hij : i < j) (hj : j < mm) : S i < S j := by
  obtain ⟨d, rfl⟩ : ∃ d, j = i + 1 + d := ⟨j - (i + 1), by omega⟩
  exact stay_lt h d i hj
theorem stay_inj {S : Nat → Int} {mm : Nat} (h : ∀ i, i + 1 < mm → S i < S (i + 1)) {i j : Nat} (hi : i < mm) (hj : j < mm) (e : S i = S j) : i = j := by
  rcases Nat.lt_trichotomy i j with h1 | h1 | h1
  · have := stay_mono h h1 hj; omega
  · exact h1
  · have := stay_mono h h1 hi; omega
/-- What stays is there. -/
structure There (n m : Nat) (f : Nat → Int) (C : Nat → Cl) (L : Nat → Sp) (q : Nat) (S : Nat → Int) (mm : Nat) (sp : Nat → Nat) : Prop where
  inn : ∀ i, i < mm → sp i < q ∧ (L (sp i)).f ≤ S i ∧ S i + zOf (atT n f m C) S i ≤ (L (sp i)).t
  obj : ∀ i, i < mm → (atT n f m C (S i)).2 = 0 ∧ (atT n f m C (S i)).1.is = true
  sep : ∀ i j, i < mm → j < mm → sp i = sp j → S i < S j → S i + zOf (atT n f m C) S i ≤ S j
theorem Walked.there {n m : Nat} {f : Nat → Int} {C : Nat → Cl} (hC : ∀ j, j < m → (C j).ok) {L : Nat → Sp} {q : Nat} {G : Nat → List Int} {X : Int → Bool} (h : Walked (atT n f m C) L q G X) {S : Nat → Int} {mm : Nat} (hX : ∀ i, i < mm → X (S i) = true) :
    ∃ sp, There n m f C L q S mm sp := by
  have hx : ∀ i : Nat, ∃ j, i < mm → j < q ∧ S i ∈ G j := fun i => by
    by_cases hi : i < mm
    · obtain ⟨j, h1, h2⟩ := (h.mem (S i)).1 (hX i hi)
      exact ⟨j, fun _ => ⟨h1, h2⟩⟩
    · exact ⟨0, fun h => absurd h hi⟩
  refine ⟨fun i => Classical.choose (hx i), ⟨fun i hi => ?_, fun i hi => ?_, fun i j hi hj e hlt => ?_⟩⟩
  · obtain ⟨h1, h2⟩ := Classical.choose_spec (hx i) hi
    exact ⟨h1, ((h.walk _ h1).sep hC).1 _ h2⟩
  · obtain ⟨h1, h2⟩ := Classical.choose_spec (hx i) hi
    exact (((h.walk _ h1).small hC).1 _ h2).2.2.2
  · obtain ⟨h1, h2⟩ := Classical.choose_spec (hx i) hi
    obtain ⟨_, h4⟩ := Classical.choose_spec (hx j) hj
    have e' : Classical.choose (hx i) = Classical.choose (hx j) := e
    rw [← e'] at h4
    exact ((h.walk _ h1).sep hC).2 _ h2 _ h4 hlt
theorem There.items {n m : Nat} {f : Nat → Int} {C : Nat → Cl} (hC : ∀ j, j < m → (C j).ok) {L : Nat → Sp} {q : Nat} {S : Nat → Int} {mm : Nat} {sp : Nat → Nat} (h : There n m f C L q S mm sp) (hP : RunPre L q n S mm) :
    Items L q (zOf (atT n f m C) S) mm S sp := by
  refine ⟨hP.rise, fun i hi => (at_ok hC (h.obj i hi).1).2.1, h.inn, fun i hi => ?_⟩
  have hlt := hP.stay i hi
  obtain ⟨a1, a2, a3⟩ := h.inn i (by omega)
  obtain ⟨b1, b2, b3⟩ := h.inn (i + 1) hi
  have z1 := (at_ok hC (h.obj i (by omega)).1).2.1
  have z2 := (at_ok hC (h.obj (i + 1) hi).1).2.1
  have r1 := (rightB_iff _).1 (hP.rise _ a1).1
  have r2 := (rightB_iff _).1 (hP.rise _ b1).1
  rcases Nat.lt_trichotomy (sp i) (sp (i + 1)) with hs | hs | hs
  · have := rise_sep hP.rise hs b1
    exact ⟨by omega, by omega⟩
  · exact ⟨h.sep i (i + 1) (by omega) hi hs hlt, by omega⟩
  · have := rise_sep hP.rise hs a1
    have z2' : 1 ≤ zOf (atT n f m C) S (i + 1) := z2
    omega
/-- Where the i-th goes; what becomes of it. -/
def dP (T : Int → Th × Int) (L : Nat → Sp) (q : Nat) (S : Nat → Int) (mm : Nat) : Nat → Int := fun i => (sts L q (zOf T S) mm).out.getD i 0
def toM (T : Int → Th × Int) (L : Nat → Sp) (q : Nat) (S : Nat → Int) (mm : Nat) : Int → Option Int := planM S (sts L q (zOf T S) mm).out mm
def adjOf (T : Int → Th × Int) (M : Int → Option Int) (S : Nat → Int) : Nat → (Nat → Int) → Nat → Int := fun i g => adjF M g (S i) (objP (T (S i))).1.refs.toNat (objP (T (S i))).1.hd
def runG (T : Int → Th × Int) (f : Nat → Int) (L : Nat → Sp) (q : Nat) (S : Nat → Int) (mm i : Nat) : Nat → Int := downF f S (dP T L q S mm) (zOf T S) (adjOf T (toM T L q S mm) S) i
theorem objP_obj {p : Th × Int} (_ : p.2 = 0) (h2 : p.1.is = true) : objP p = p := by
  unfold objP
  rw [if_neg]
  intro h
  unfold Th.is at h2
  rw [h.2] at h2
  exact absurd h2 (by decide)
theorem adjF_out {M : Int → Option Int} {g : Nat → Int} {a : Int} {r : Nat} {h : Hd} {j : Nat} {k : Int} (ha : 1 ≤ a) (hk : 2 + (r : Int) ≤ k) (hj : ¬ (a ≤ j ∧ (j : Int) < a + k)) : adjF M g a r h j = g j := by
  unfold adjF putF adjR
  rw [if_neg (by omega), if_neg (by omega)]
theorem adjF_loc {M : Int → Option Int} {g g' : Nat → Int} {a : Int} {r : Nat} {h : Hd} {j : Nat} (hg : g j = g' j) : adjF M g a r h j = adjF M g' a r h j := by
  unfold adjF putF adjR
  rw [hg]
theorem There.down {n m : Nat} {f : Nat → Int} {C : Nat → Cl} (hC : ∀ j, j < m → (C j).ok) {L : Nat → Sp} {q : Nat} {S : Nat → Int} {mm : Nat} {sp : Nat → Nat} (h : There n m f C L q S mm sp) (hP : RunPre L q n S mm) (M : Int → Option Int) :
    Down mm S (dP (atT n f m C) L q S mm) (zOf (atT n f m C) S) (adjOf (atT n f m C) M S) := by
  have hI := h.items hC hP
  have hW := hI.well
  refine ⟨hI.big, fun i hi => (hW.out_bd hi).1, fun i hi => hI.le hi, fun i hi => (hI.next i hi).1, fun i hi => ?_, fun i hi g j hj => ?_, fun i hi g g' hg j h1 h2 => ?_⟩
  · have := hW.next (i := i + 1) (by omega) hi
    rw [Nat.add_sub_cancel] at this
    exact this
  · obtain ⟨o1, o2⟩ := h.obj i hi
    obtain ⟨k1, k2, k3, k4, k5, k6, k7, k8⟩ := at_ok hC o1
    have k8 := k8 o2
    unfold adjOf
    refine adjF_out k1 ?_ hj
    rw [objP_obj o1 o2]
    unfold zOf
    omega
  · exact adjF_loc (hg j h1 h2)
theorem There.fits {n m : Nat} {f : Nat → Int} {C : Nat → Cl} (hC : ∀ j, j < m → (C j).ok) {L : Nat → Sp} {q : Nat} {S : Nat → Int} {mm : Nat} {sp : Nat → Nat} (h : There n m f C L q S mm sp) (hP : RunPre L q n S mm) {i : Nat} (hi : i < mm) :
    0 ≤ dP (atT n f m C) L q S mm i ∧ 1 ≤ zOf (atT n f m C) S i ∧ dP (atT n f m C) L q S mm i + zOf (atT n f m C) S i ≤ n ∧ S i + zOf (atT n f m C) S i ≤ n := by
  have hI := h.items hC hP
  have hW := hI.well
  obtain ⟨l1, l2, l3⟩ := hW.lies hi
  have := (hW.bd (i := mm) (Nat.le_refl _) l1).2.2
  have he := hP.ends _ l1
  obtain ⟨k1, k2, k3, _⟩ := at_ok hC (h.obj i hi).1
  refine ⟨(hW.out_bd hi).1, hI.big i hi, ?_, k3⟩
  unfold dP
  omega
/-- The next one is what it was. -/
theorem There.next {n m : Nat} {f : Nat → Int} {C : Nat → Cl} (hC : ∀ j, j < m → (C j).ok) {L : Nat → Sp} {q : Nat} {S : Nat → Int} {mm : Nat} {sp : Nat → Nat} (h : There n m f C L q S mm sp) (hP : RunPre L q n S mm) {i : Nat} (hi : i < mm) :
    atT n (runG (atT n f m C) f L q S mm i) m C (S i) = atT n f m C (S i) ∧ ∀ j : Nat, S i ≤ j → runG (atT n f m C) f L q S mm i j = f j := by
  have hD := h.down hC hP (toM (atT n f m C) L q S mm)
  have hs : ∀ j : Nat, S i ≤ j → runG (atT n f m C) f L q S mm i j = f j := fun j hj => hD.src i hi j hj
  have k1 := (at_ok hC (h.obj i hi).1).1
  exact ⟨atT_two (hs _ (by omega)) (hs _ (by omega)), hs⟩
theorem planM_zero (S : Nat → Int) (out : List Int) : ∀ k, (∀ i, i < k → S i ≠ 0) → planM S out k 0 = some 0
  | 0, _ => by unfold planM putM; rw [if_pos rfl]
  | k + 1, h => by
    unfold planM putM
    rw [if_neg (fun e => h k (by omega) e.symm)]
    exact planM_zero S out k (fun i hi => h i (by omega))
theorem planM_at (S : Nat → Int) (out : List Int) : ∀ k, (∀ i j, i < k → j < k → S i = S j → i = j) → ∀ i, i < k → planM S out k (S i) = some (out.getD i 0)
  | 0, _, i, hi => by omega
  | k + 1, h, i, hi => by
    unfold planM putM
    by_cases e : S i = S k
    · rw [if_pos e, h i k hi (by omega) e]
    · rw [if_neg e]
      have : i ≠ k := fun e' => e (by rw [e'])
      exact planM_at S out k (fun a b ha hb => h a b (by omega) (by omega)) i (by omega)
theorem planM_none (S : Nat → Int) (out : List Int) (x : Int) (h0 : x ≠ 0) : ∀ k, (∀ i, i < k → x ≠ S i) → planM S out k x = none
  | 0, _ => by unfold planM putM; rw [if_neg h0]
  | k + 1, h => by
    unfold planM putM
    rw [if_neg (h k (by omega))]
    exact planM_none S out x h0 k (fun i hi => h i (by omega))
theorem toM_at {T : Int → Th × Int} {L : Nat → Sp} {q n : Nat} {S : Nat → Int} {mm : Nat} (hP : RunPre L q n S mm) {i : Nat} (hi : i < mm) : toM T L q S mm (S i) = some (dP T L q S mm i) :=
  planM_at S _ mm (fun _ _ ha hb e => stay_inj hP.stay ha hb e) i hi
/-- A run that goes well. -/
structure RunGood (n m : Nat) (f : Nat → Int) (C : Nat → Cl) (L : Nat → Sp) (q : Nat) (S : Nat → Int) (mm : Nat) (Rt : Nat → Int) (rr : Nat) : Prop where
  pre : RunPre L q n S mm
  walked : ∃ G X, Walked (atT n f m C) L q G X ∧ ∀ i, i < mm → X (S i) = true
  refs : ∀ i, i < mm → ∀ r : Nat, (r : Int) < (objP (atT n f m C (S i))).1.refs → toM (atT n f m C) L q S mm (f (refAt (S i) r).toNat) ≠ none
  roots : ∀ i, i < rr → toM (atT n f m C) L q S mm (Rt i) ≠ none
theorem Walked.one {T : Int → Th × Int} {L : Nat → Sp} {q : Nat} {G G' : Nat → List Int} {X X' : Int → Bool} (h : Walked T L q G X) (h' : Walked T L q G' X') (x : Int) : X x = X' x := by
  rw [Bool.eq_iff_iff, h.mem, h'.mem]
  refine ⟨fun ⟨j, h1, h2⟩ => ⟨j, h1, ?_⟩, fun ⟨j, h1, h2⟩ => ⟨j, h1, ?_⟩⟩
  · rw [← ((h.walk j h1).same (h'.walk j h1)).1]; exact h2
  · rw [((h.walk j h1).same (h'.walk j h1)).1]; exact h2

end Go.Proofs.YtkjgfblkbjlohaaGreat

namespace Go.Proofs.YtkjgfblkbjlohaaGreat
open Go.RowKit

theorem WalkR.det {T : Int → Th × Int} {z a : Int} {L L' : List Int} {e e' : Int} (h : WalkR T z a L e) (h' : WalkR T z a L' e') : L = L' ∧ e = e' := by
  induction h generalizing L' e' with
  | done h1 => cases h' with
    | done _ => exact ⟨rfl, rfl⟩
    | err k1 _ => omega
    | far k1 _ _ => omega
    | step k1 _ _ _ => omega
  | err h1 h2 => cases h' with
    | done k1 => omega
    | err k1 _ => exact ⟨rfl, rfl⟩
    | far k1 k2 _ => exact absurd k2 h2
    | step k1 k2 _ _ => exact absurd k2 h2
  | far h1 h2 h3 => cases h' with
    | done k1 => omega
    | err k1 k2 => exact absurd h2 k2
    | far k1 k2 _ => exact ⟨rfl, rfl⟩
    | step k1 k2 k3 _ => omega
  | step h1 h2 h3 h4 ih => cases h' with
    | done k1 => omega
    | err k1 k2 => exact absurd h2 k2
    | far k1 k2 k3 => omega
    | step k1 k2 k3 k4 =>
      obtain ⟨rfl, rfl⟩ := ih k4
      exact ⟨rfl, rfl⟩
theorem putF_self (f : Nat → Int) (k : Nat) (v : Int) : putF f k v k = v := if_pos rfl
theorem putF_ne {f : Nat → Int} {k j : Nat} {v : Int} (h : j ≠ k) : putF f k v j = f j := if_neg h
theorem raw_gap : rawH gapW = ⟨0, 0, 0, false, false, false⟩ := by kernel_rfl
theorem raw_gap1 : rawH gap1W = ⟨0, 0, 0, true, false, false⟩ := by kernel_rfl

end Go.Proofs.YtkjgfblkbjlohaaGreat

namespace Go.Proofs.YtkjgfblkbjlohaaGreat
open Go.RowKit

/-- What stands at an address hangs on its words alone. -/
theorem atT_same {n m : Nat} {f g : Nat → Int} {C : Nat → Cl} {a : Int} (hC : ∀ j, j < m → (C j).ok) (h : (atT n f m C a).2 = 0)
    (hg : ∀ j : Nat, a ≤ j → (j : Int) < a + (atT n f m C a).1.words → g j = f j) : atT n g m C a = atT n f m C a := by
  obtain ⟨h1, h2, h3⟩ := at_cases h
  obtain ⟨t1, t2, t3, t4⟩ := thB_true.1 h1
  have e0 : (a.toNat : Int) = a := by omega
  have e1 : ((a + 1).toNat : Int) = a + 1 := by omega
  rcases h3 with ⟨c1, c2, c3⟩ | ⟨c1, c2, c3, c4, c5, c6⟩ | ⟨c1, c2, c3, c4, c5⟩
  · rw [c3] at hg ⊢
    have q0 : g a.toNat = f a.toNat := hg _ (by omega) (by dsimp only; omega)
    exact atT_one h1 (by rw [q0]; exact h2) (by rw [q0]) c1 c2
  · obtain ⟨u1, u2, u3, u4⟩ := thB_true.1 c5
    rw [c6] at hg ⊢
    have q0 : g a.toNat = f a.toNat := hg _ (by omega) (by dsimp only; omega)
    have q1 : g (a + 1).toNat = f (a + 1).toNat := hg _ (by omega) (by dsimp only; omega)
    exact atT_gap h1 (by rw [q0]; exact h2) (by rw [q0]) c1 c2 c3 q1 (by omega) c5
  · obtain ⟨b1, b2, b3, b4⟩ := sh_bd hC c3
    rw [c5] at hg ⊢
    have q0 : g a.toNat = f a.toNat := hg _ (by omega) (by dsimp only; omega)
    have q1 : g (a + 1).toNat = f (a + 1).toNat := hg _ (by omega) (by dsimp only; omega)
    exact atT_obj h1 (by rw [q0]; exact h2) (by rw [q0]) c1 c2 q1 c3 rfl rfl c4

/-- From a to z there are things, side by side; L are the objects among them. -/
inductive Tiles (T : Int → Th × Int) : Int → Int → List Int → Prop
  | nil (a : Int) : Tiles T a a []
  | cons {a z : Int} {L : List Int} : (T a).2 = 0 → 1 ≤ (T a).1.words → Tiles T (a + (T a).1.words) z L → Tiles T a z (if (T a).1.is then a :: L else L)
namespace Tiles
variable {T : Int → Th × Int} {a b z : Int} {L L' : List Int}
theorem le (h : Tiles T a z L) : a ≤ z := by
  induction h with
  | nil => exact Int.le_refl _
  | cons _ h2 _ ih => omega
theorem append (h : Tiles T a b L) (h' : Tiles T b z L') : Tiles T a z (L ++ L') := by
  induction h with
  | nil => exact h'
  | cons h1 h2 _ ih =>
    rename_i a b L h3
    have := Tiles.cons h1 h2 (ih h')
    cases hi : (T a).1.is with
    | true => simpa [hi] using this
    | false => simpa [hi] using this
theorem one (h1 : (T a).2 = 0) (h2 : 1 ≤ (T a).1.words) : Tiles T a (a + (T a).1.words) (if (T a).1.is then [a] else []) := .cons h1 h2 (.nil _)
theorem walk (h : Tiles T a z L) : WalkR T z a L 0 := by
  induction h with
  | nil => exact .done (Int.le_refl _)
  | cons h1 h2 h3 ih =>
    have hle := h3.le
    have := WalkR.step (by omega) h1 (by omega) ih
    rw [if_pos rfl] at this
    exact this
theorem far {p : Int} (h : Tiles T a p L) (h1 : (T p).2 = 0) (h2 : p < z) (h3 : z - p < (T p).1.words) : WalkR T z a [] 12 := by
  induction h with
  | nil => exact .far h2 h1 h3
  | cons k1 k2 k3 ih =>
    have hle := k3.le
    have := WalkR.step (by omega) k1 (by omega) (ih h1 h2 h3)
    rw [if_neg (by decide)] at this
    exact this
theorem congr {n m : Nat} {f g : Nat → Int} {C : Nat → Cl} (hC : ∀ j, j < m → (C j).ok) (h : Tiles (atT n f m C) a z L) (hg : ∀ j : Nat, a ≤ j → (j : Int) < z → g j = f j) : Tiles (atT n g m C) a z L := by
  induction h with
  | nil => exact .nil _
  | cons h1 h2 h3 ih =>
    rename_i a z L
    have hle := h3.le
    have e := atT_same hC h1 (g := g) (fun j j1 j2 => hg j j1 (by omega))
    have := Tiles.cons (T := atT n g m C) (a := a) (z := z) (L := L) (by rw [e]; exact h1) (by rw [e]; exact h2) (by rw [e]; exact ih (fun j j1 j2 => hg j (by omega) j2))
    rw [e] at this
    exact this
end Tiles

end Go.Proofs.YtkjgfblkbjlohaaGreat

namespace Go.Proofs.YtkjgfblkbjlohaaGreat
open Go.RowKit

/-- A world that is being made: the spaces L are tiled up to their tops by the objects ats, and gaps. -/
structure LInv (n m : Nat) (f : Nat → Int) (C : Nat → Cl) (L : Nat → Sp) (G : Nat → List Int) (ats : List Int) : Prop where
  rise : Rise L 3
  ends : ∀ j, j < 3 → (L j).e ≤ 451
  tile : ∀ j, j < 3 → Tiles (atT n f m C) (L j).f (L j).t (G j)
  mem : ∀ x, x ∈ ats ↔ ∃ j, j < 3 ∧ x ∈ G j
  nd : ats.Nodup
  i64 : ∀ j, j < n → I64 (f j)
  ref : ∀ a, a ∈ ats → ∀ x, x ∈ refsOf f a (objP (atT n f m C a)).1.refs.toNat → x = 0 ∨ x ∈ ats
theorem Tiles.bd {n m : Nat} {f : Nat → Int} {C : Nat → Cl} (hC : ∀ j, j < m → (C j).ok) {a z : Int} {X : List Int} (h : Tiles (atT n f m C) a z X) {x : Int} (hx : x ∈ X) :
    a ≤ x ∧ x + (atT n f m C x).1.words ≤ z ∧ (atT n f m C x).2 = 0 ∧ (atT n f m C x).1.is = true ∧ 1 ≤ x ∧ 1 ≤ (atT n f m C x).1.words := by
  have h1 := (h.walk.sep hC).1 x hx
  have h2 := (h.walk.small hC).1 x hx
  exact ⟨h1.1, h1.2, h2.2.2.2.1, h2.2.2.2.2, h2.1, (at_ok hC h2.2.2.2.1).2.1⟩
theorem refsOf_congr {f g : Nat → Int} {a : Int} {r : Nat} (h : ∀ i : Nat, i < r → g (a + 2 + i).toNat = f (a + 2 + i).toNat) : refsOf g a r = refsOf f a r := by
  unfold refsOf
  apply List.map_congr_left
  intro i hi
  exact h i (List.mem_range.1 hi)
/-- An object whose words are as they were. -/
theorem obj_same {n m : Nat} {f g : Nat → Int} {C : Nat → Cl} (hC : ∀ j, j < m → (C j).ok) {x : Int} (h0 : (atT n f m C x).2 = 0) (hi : (atT n f m C x).1.is = true) (hg : ∀ j : Nat, x ≤ j → (j : Int) < x + (atT n f m C x).1.words → g j = f j) :
    atT n g m C x = atT n f m C x ∧ refsOf g x (objP (atT n g m C x)).1.refs.toNat = refsOf f x (objP (atT n f m C x)).1.refs.toNat := by
  obtain ⟨k1, k2, k3, k4, k5, k6, k7, k8⟩ := at_ok hC h0
  have k8 := k8 hi
  have e := atT_same hC h0 hg
  refine ⟨e, ?_⟩
  rw [e]
  rw [objP_obj h0 hi]
  exact refsOf_congr (fun i h => hg _ (by omega) (by omega))
theorem LInv.in_ {n m : Nat} {f : Nat → Int} {C : Nat → Cl} {L : Nat → Sp} {G : Nat → List Int} {ats : List Int} (hC : ∀ j, j < m → (C j).ok) (h : LInv n m f C L G ats) {x : Int} (hx : x ∈ ats) :
    ∃ j, j < 3 ∧ x ∈ G j ∧ (L j).f ≤ x ∧ x + (atT n f m C x).1.words ≤ (L j).t ∧ (atT n f m C x).2 = 0 ∧ (atT n f m C x).1.is = true ∧ 1 ≤ x ∧ 1 ≤ (atT n f m C x).1.words := by
  obtain ⟨j, hj, hm⟩ := (h.mem x).1 hx
  exact ⟨j, hj, hm, (h.tile j hj).bd hC hm⟩
def upT (L : Nat → Sp) (k : Nat) (z : Int) : Nat → Sp := setS L k { L k with t := (L k).t + z }
theorem upT_f (L : Nat → Sp) (k : Nat) (z : Int) (j : Nat) : (upT L k z j).f = (L j).f ∧ (upT L k z j).e = (L j).e ∧ (upT L k z j).t = if j = k then (L k).t + z else (L j).t := by
  unfold upT setS
  by_cases h : j = k
  · subst h; simp
  · simp [h]
theorem endAt_congr {L L' : Nat → Sp} (h : ∀ j, (L' j).e = (L j).e) : ∀ i, endAt L' i = endAt L i
  | 0 => rfl
  | i + 1 => h i
theorem LInv.add {n m : Nat} {f g : Nat → Int} {C : Nat → Cl} {L : Nat → Sp} {G : Nat → List Int} {ats : List Int} (hC : ∀ j, j < m → (C j).ok) (h : LInv n m f C L G ats) {k : Nat} (hk : k < 3)
    (h0 : (atT n g m C (L k).t).2 = 0) (h1 : 1 ≤ (atT n g m C (L k).t).1.words) (hfit : (L k).t + (atT n g m C (L k).t).1.words ≤ (L k).e)
    (hout : ∀ j : Nat, ¬ ((L k).t ≤ j ∧ (j : Int) < (L k).t + (atT n g m C (L k).t).1.words) → g j = f j) (hi : ∀ j, j < n → I64 (g j))
    (hr : (atT n g m C (L k).t).1.is = true → ∀ x, x ∈ refsOf g (L k).t (objP (atT n g m C (L k).t)).1.refs.toNat → x = 0) :
    LInv n m g C (upT L k (atT n g m C (L k).t).1.words) (fun j => if j = k then G k ++ (if (atT n g m C (L k).t).1.is then [(L k).t] else []) else G j) (ats ++ (if (atT n g m C (L k).t).1.is then [(L k).t] else [])) := by
  have hRk := (rightB_iff _).1 (h.rise k hk).1
  -- what lies in a space is apart from what is new
  have hap : ∀ j, j < 3 → ∀ i : Nat, (L j).f ≤ i → (i : Int) < (L j).t → g i = f i := fun j hj i a1 a2 => by
    apply hout
    intro ⟨b1, b2⟩
    have hRj := (rightB_iff _).1 (h.rise j hj).1
    rcases Nat.lt_trichotomy j k with hs | hs | hs
    · have := rise_sep h.rise hs hk; omega
    · subst hs; omega
    · have := rise_sep h.rise hs hj; omega
  have hT : ∀ j, j < 3 → Tiles (atT n g m C) (L j).f (L j).t (G j) := fun j hj => (h.tile j hj).congr hC (hap j hj)
  have hsame : ∀ x, x ∈ ats → atT n g m C x = atT n f m C x ∧ refsOf g x (objP (atT n g m C x)).1.refs.toNat = refsOf f x (objP (atT n f m C x)).1.refs.toNat := fun x hx => by
    obtain ⟨j, hj, _, b1, b2, b3, b4, _⟩ := h.in_ hC hx
    exact obj_same hC b3 b4 (fun i i1 i2 => hap j hj i (by omega) (by omega))
  have hnot : (L k).t ∉ ats := fun hx => by
    obtain ⟨j, hj, _, b1, b2, b3, b4, b5, b6⟩ := h.in_ hC hx
    have hRj := (rightB_iff _).1 (h.rise j hj).1
    rcases Nat.lt_trichotomy j k with hs | hs | hs
    · have := rise_sep h.rise hs hk; omega
    · subst hs; omega
    · have := rise_sep h.rise hs hj; omega
  refine ⟨fun j hj => ?_, fun j hj => ?_, fun j hj => ?_, fun x => ?_, ?_, hi, fun a ha x hx => ?_⟩
  · obtain ⟨u1, u2, u3⟩ := upT_f L k (atT n g m C (L k).t).1.words j
    refine ⟨(rightB_iff _).2 ?_, ?_⟩
    · rw [u1, u2, u3]
      have := (rightB_iff _).1 (h.rise j hj).1
      by_cases e : j = k
      · subst e; rw [if_pos rfl]; omega
      · rw [if_neg e]; exact this
    · rw [u1, endAt_congr (L := L) (fun j => (upT_f L k _ j).2.1)]
      exact (h.rise j hj).2
  · rw [(upT_f L k _ j).2.1]; exact h.ends j hj
  · obtain ⟨u1, u2, u3⟩ := upT_f L k (atT n g m C (L k).t).1.words j
    rw [u1, u3]
    by_cases e : j = k
    · subst e
      rw [if_pos rfl, if_pos rfl]
      exact (hT j hj).append (Tiles.one h0 h1)
    · rw [if_neg e, if_neg e]; exact hT j hj
  · rw [List.mem_append, h.mem x]
    refine ⟨fun hh => ?_, fun ⟨j, hj, hm⟩ => ?_⟩
    · rcases hh with ⟨j, hj, hm⟩ | hm
      · refine ⟨j, hj, ?_⟩
        by_cases e : j = k
        · subst e; rw [if_pos rfl]; exact List.mem_append_left _ hm
        · rw [if_neg e]; exact hm
      · exact ⟨k, hk, by rw [if_pos rfl]; exact List.mem_append_right _ hm⟩
    · by_cases e : j = k
      · rw [if_pos e] at hm
        subst e
        rcases List.mem_append.1 hm with hm | hm
        · exact .inl ⟨j, hj, hm⟩
        · exact .inr hm
      · rw [if_neg e] at hm
        exact .inl ⟨j, hj, hm⟩
  · cases hs : (atT n g m C (L k).t).1.is with
    | false => rw [if_neg (by decide), List.append_nil]; exact h.nd
    | true =>
      rw [if_pos rfl]
      refine List.nodup_append.2 ⟨h.nd, by simp, fun a ha b hb e => ?_⟩
      simp at hb
      exact hnot (by rw [← hb, ← e]; exact ha)
  · rcases List.mem_append.1 ha with ha | ha
    · rw [(hsame a ha).2] at hx
      exact (h.ref a ha x hx).imp_right (fun hm => List.mem_append_left _ hm)
    · cases hs : (atT n g m C (L k).t).1.is with
      | false => rw [hs, if_neg (by decide)] at ha; cases ha
      | true =>
        rw [hs, if_pos rfl] at ha
        simp at ha
        subst ha
        exact .inl (hr hs x hx)
theorem LInv.len {n m : Nat} {f : Nat → Int} {C : Nat → Cl} {L : Nat → Sp} {G : Nat → List Int} {ats : List Int} (h : LInv n m f C L G ats) (hC : ∀ j, j < m → (C j).ok) {x : Int} (hx : x ∈ ats) : 1 ≤ x ∧ x < 451 := by
  obtain ⟨j, hj, _, b1, b2, b3, b4, b5, b6⟩ := h.in_ hC hx
  have hRj := (rightB_iff _).1 (h.rise j hj).1
  have := h.ends j hj
  omega

end Go.Proofs.YtkjgfblkbjlohaaGreat
