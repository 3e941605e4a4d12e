/- Layer 16, slide: a run's move. -/
import Derived.Test.YtkjgfblkbjlohaaGreatG22
import Derived.Test.YtkjgfblkbjlohaaGreatG23
import Derived.Test.YtkjgfblkbjlohaaGreatG12
set_option linter.all false

namespace Go.Proofs.YtkjgfblkbjlohaaGreat
open Go.RowKit

theorem atT_two {n m : Nat} {f g : Nat → Int} {C : Nat → Cl} {a : Int} (h1 : g a.toNat = f a.toNat) (h2 : g (a + 1).toNat = f (a + 1).toNat) : atT n g m C a = atT n f m C a := by
  unfold atT; rw [h1, h2]
/-- The first i references of what lies at a go where M says. -/
def adjR (M : Int → Option Int) (f : Nat → Int) (a : Int) (i : Nat) : Nat → Int := fun j => if a + 2 ≤ j ∧ (j : Int) < a + 2 + i then (M (f j)).getD 0 else f j
theorem adjR_zero (M : Int → Option Int) (f : Nat → Int) (a : Int) : adjR M f a 0 = f := by
  funext j; unfold adjR; rw [if_neg (by omega)]
theorem adjR_at {M : Int → Option Int} {f : Nat → Int} {a : Int} (_ : 1 ≤ a) (i : Nat) : adjR M f a i (refAt a i).toNat = f (refAt a i).toNat := by
  unfold adjR refAt; rw [if_neg (by omega)]
theorem adjR_succ {M : Int → Option Int} {f : Nat → Int} {a : Int} (h : 1 ≤ a) (i : Nat) : putF (adjR M f a i) (refAt a i).toNat ((M (f (refAt a i).toNat)).getD 0) = adjR M f a (i + 1) := by
  funext j
  unfold putF adjR refAt
  by_cases e : j = (a + 2 + i).toNat
  · rw [if_pos e, if_pos (by omega), e]
  · rw [if_neg e]
    by_cases e2 : a + 2 ≤ j ∧ (j : Int) < a + 2 + i
    · rw [if_pos e2, if_pos (by omega)]
    · rw [if_neg e2, if_neg (by omega)]
theorem adjR_head {M : Int → Option Int} {f : Nat → Int} {a : Int} (h : 1 ≤ a) (i : Nat) : adjR M f a i a.toNat = f a.toNat ∧ adjR M f a i (a + 1).toNat = f (a + 1).toNat := by
  unfold adjR; rw [if_neg (by omega), if_neg (by omega)]; exact ⟨rfl, rfl⟩
theorem atT_adjR {n m : Nat} {C : Nat → Cl} {M : Int → Option Int} {f : Nat → Int} {a : Int} (h : 1 ≤ a) (i : Nat) : atT n (adjR M f a i) m C a = atT n f m C a :=
  atT_two (adjR_head h i).1 (adjR_head h i).2
theorem obj_hd {n m : Nat} {f : Nat → Int} {C : Nat → Cl} {a : Int} (h : (objP (atT n f m C a)).2 = 0) : (objP (atT n f m C a)).1.hd = rawH (f a.toNat) ∧ (rawH (f a.toNat)).ok := by
  obtain ⟨e, h2, _⟩ := obj_zero h
  obtain ⟨_, hk, h3⟩ := at_cases h2
  rw [e]
  rcases h3 with ⟨_, _, h3⟩ | ⟨_, _, _, _, _, h3⟩ | ⟨_, _, _, _, h3⟩ <;> rw [h3] <;> exact ⟨rfl, hk⟩
/-- A head without mark and forward. -/
def Hd.clean (h : Hd) : Hd := ⟨h.cls, h.age, 0, false, h.fin, h.done⟩
theorem Hd.ok.clean {h : Hd} (k : h.ok) : h.clean.ok := ⟨k.1, k.2.1, ⟨Int.le_refl 0, by show (0 : Int) < 4096; decide⟩, k.2.2.2⟩
/-- What lies at a, adjusted: its references go where M says, its head has no mark and no forward. -/
def adjF (M : Int → Option Int) (f : Nat → Int) (a : Int) (r : Nat) (h : Hd) : Nat → Int := putF (adjR M f a r) a.toNat (hdW h.clean)

def Moved (P : World → Prop) (e : Ending) (w' : World) : Prop := (∃ v, e = .returned v) ∧ P w'
set_option maxRecDepth 100000 in
set_option maxHeartbeats 2000000 in
theorem rmove_any (ba bw n : Nat) (f : Nat → Int) (bt : Nat) (A : Option Addr) (m cap : Nat) (C : Nat → Cl) (w : World) (h : St w ba bw n f bt A m cap C) (rb mb : Nat) (stay sizes : Value)
    (hR : BL w rb 85 (runL ba bt mb stay sizes)) (hrb : rb ≠ bw) (hmb : mb ≠ bw) (M : Int → Option Int) (nn : Nat) (hM : MapIs w mb M nn) (a p k : Int) (hq : (objP (atT n f m C a)).2 = 0)
    (hf : ∀ i : Nat, (i : Int) < (objP (atT n f m C a)).1.refs → I64 (f (refAt a i).toNat)) (hp : M a = some p) (p0 : 0 ≤ p) (k0 : 1 ≤ k) (pn : p + k ≤ n) (an : a + k ≤ n) :
    Calls Tryz.prog 37 #[.pointer (some ⟨rb, 0, none⟩), .int .i64 a, .int .i64 k] w
      (Moved fun w' => St w' ba bw n (moveF (adjF M f a (objP (atT n f m C a)).1.refs.toNat (objP (atT n f m C a)).1.hd) p a k) bt A m cap C ∧ Only bw w w') := by
  obtain ⟨k1, k2, k3, k4, k5, k6⟩ := obj_ok h.tb.ok hq
  have hle := h.ar.le
  have hbl := h.ar.lt2
  have HSh := Lib.hid (fun w' (h : St w' ba bw n f bt A m cap C) => oshape_any ba bw n f bt A m cap C w' h a)
  have HRf := Lib.hid (show ∀ w' (i : Nat), St w' ba bw n (adjR M f a i) bt A m cap C → (i : Int) < (objP (atT n f m C a)).1.refs → Calls Tryz.prog 74 #[stV ba bt, .int .i64 a, .int .i64 i] w' fun e w2 => e = .returned (.tuple #[.int .i64 (f (refAt a i).toNat), .int .i64 0]) ∧ Keeps w' w2 from
    fun w' i hS hi => by
      have hh := ref_in ba bw n (adjR M f a i) bt A m cap C w' hS a i (by rw [atT_adjR k1]; exact hq) (by omega) (by rw [atT_adjR k1]; exact hi)
      rw [adjR_at k1] at hh; exact hh)
  have HSR := Lib.hid (show ∀ w' (i : Nat), St w' ba bw n (adjR M f a i) bt A m cap C → (i : Int) < (objP (atT n f m C a)).1.refs → Calls Tryz.prog 21 #[stV ba bt, .int .i64 a, .int .i64 i, .int .i64 ((M (f (refAt a i).toNat)).getD 0)] w' fun e w2 => e = .returned (.int .i64 0) ∧ St w2 ba bw n (adjR M f a (i + 1)) bt A m cap C ∧ Only bw w' w2 from
    fun w' i hS hi => by
      have hh := setref_yes ba bw n (adjR M f a i) bt A m cap C w' hS a i ((M (f (refAt a i).toNat)).getD 0) (slE_zero.2 ⟨by rw [atT_adjR k1]; exact hq, by omega, by rw [atT_adjR k1]; exact hi⟩)
      rw [adjR_succ k1] at hh; exact hh)
  have HHd := Lib.hid (show ∀ w' (i : Nat), St w' ba bw n (adjR M f a i) bt A m cap C → Calls Tryz.prog 58 #[stV ba bt, .int .i64 a] w' fun e w2 => e = .returned (.tuple #[hdV (objP (atT n f m C a)).1.hd, .int .i64 0]) ∧ Keeps w' w2 from
    fun w' i hS => by
      have hh := ohead_any ba bw n (adjR M f a i) bt A m cap C w' hS a
      rw [atT_adjR k1, hq] at hh; exact hh)
  have HSH := Lib.hid (show ∀ w', St w' ba bw n (adjR M f a (objP (atT n f m C a)).1.refs.toNat) bt A m cap C → Calls Tryz.prog 59 #[stV ba bt, .int .i64 a, hdV (objP (atT n f m C a)).1.hd.clean] w' fun e w2 => e = .returned (.int .i64 0) ∧ St w2 ba bw n (adjF M f a (objP (atT n f m C a)).1.refs.toNat (objP (atT n f m C a)).1.hd) bt A m cap C ∧ Only bw w' w2 from
    fun w' hS => sethead_yes ba bw n _ bt A m cap C w' hS a _ (by rw [atT_adjR k1]; exact hq) (by rw [(obj_hd hq).1]; exact (obj_hd hq).2.clean) (by rw [atT_adjR k1]; rfl))
  have HMv := Lib.hid (show ∀ w', Ar w' ba bw n (adjF M f a (objP (atT n f m C a)).1.refs.toNat (objP (atT n f m C a)).1.hd) → Calls Tryz.prog 75 #[.pointer (some ⟨ba, 0, none⟩), .int .i64 p, .int .i64 a, .int .i64 k] w' fun e w2 => e = .returned (.int .i64 0) ∧ Ar w2 ba bw n (moveF (adjF M f a (objP (atT n f m C a)).1.refs.toNat (objP (atT n f m C a)).1.hd) p a k) ∧ Only bw w' w2 from
    fun w' hA => by
      have hh := move_yes ba bw n _ w' hA p.toNat a.toNat k.toNat (by omega) (by omega) (by omega)
      rw [Int.toNat_of_nonneg p0, Int.toNat_of_nonneg (by omega : 0 ≤ a), Int.toNat_of_nonneg (by omega : 0 ≤ k)] at hh; exact hh)
  have HV := Lib.hid (fun (i : Nat) (h1 : (i : Int) < (objP (atT n f m C a)).1.refs) => hf i h1)
  have HPa := Lib.hid hp
  have Ha := Lib.hid (show I64 a from ⟨by omega, by omega⟩)
  have h0 := h
  rw [← adjR_zero M f a] at h0
  clear hf hp k6 k4 k5
  rw [hq] at HSh
  unfold runL at hR
  unfold stV at *
  generalize adjF M f a (objP (atT n f m C a)).1.refs.toNat (objP (atT n f m C a)).1.hd = F at *
  clear hq
  generalize objP (atT n f m C a) = q at *
  obtain ⟨⟨⟨c, ag, fw, mk, fi, dn⟩, r, d, k'⟩, x⟩ := q
  unfold Hd.clean hdV at *
  dsimp only at *
  have e1 := hR.c 1 _ rfl
  have e2 := hR.c 2 _ rfl
  have hrw := hR.lt
  have hmw := hM.lt
  go_enter Tryz.func37, Tryz.ntmps37
  go_wp2_with fail
  refine Calls.mono (HSh.out _ h) ?_
  rintro e w1 ⟨rfl, k9⟩
  have hS1 := h0.keep k9
  have o1 : Only bw w w1 := k9.only
  clear h h0 HSh e1 e2
  go_wp2_with fail
  go_loopw [25] (fun s wr => ∃ i : Nat, (i : Int) ≤ r ∧ s = .int .i64 i ∧ St wr ba bw n (adjR M f a i) bt A m cap C ∧ Only bw w wr) (fun s _ => (r - intOf s).toNat)
  case atStart => exact ⟨0, by omega, rfl, hS1, o1⟩
  case round =>
    obtain ⟨wo, rfl⟩ : ∃ wo : World, wo = wr := ⟨_, rfl⟩
    obtain ⟨i, hi, rfl, hS2, o2⟩ := hrel
    have hR2 := hR.touch o2 hrb
    have hM2 := hM.touch o2 hmb
    have z2 := o2.size
    have e1 := hR2.c 1 _ rfl
    have e2 := hR2.c 2 _ rfl
    by_cases hlt : (i : Int) < r
    · have HI := Lib.hid (HV.out i hlt)
      go_wp2_with fail
      refine Calls.mono (HRf.out _ i hS2 hlt) ?_
      rintro e w3 ⟨rfl, k3⟩
      have hS3 := hS2.keep k3
      have hR3 := hR2.keep k3
      have o3 : Only bw w w3 := Only.trans_ o2 k3.only
      have hM3 := hM2.touch k3 (fun h => h)
      clear e1 e2 hM2 hR2 hS2
      have hM2 := hM3
      clear hM3
      have e1 := hR3.c 1 _ rfl
      have e2 := hR3.c 2 _ rfl
      have e5 := hR3.c 5 _ rfl
      go_wp2_with fail
      refine wp_region_noPanic ?_
      refine wp_region_held_drew (S := (fun w' => Only bw w3 w')) (by kernel_rfl) (Only.refl _ w3).drew (fun hHeld => ?_)
      refine' wpAnyH_take (i := 0) ?hi0_1 ?hs0_1 ?hf0_1 ?hr0_1 ?hQ0_1 ?hy0_1 (by assumption) ?rest0_1
      case hi0_1 => simp only [List.getElem?_toArray, List.getElem?_cons_zero] <;> rfl
      case hs0_1 => kernel_rfl
      case hf0_1 => kernel_rfl
      case hr0_1 => kernel_rfl
      case hQ0_1 => exact fun _ _ _ h => h
      case hy0_1 => exact Or.inl ⟨by rfl, fun w hSw => by have q1 := cell_only e1 hSw (by show rb ≠ _; omega); have q2 := cell_only e2 hSw (by show rb ≠ _; omega); have q5 := cell_only e5 hSw (by show rb ≠ _; omega); have q6 := (hM2.touch hSw (by omega)).look HI.out; go_simp <;> (try with_reducible rfl)⟩
      simp only [Act.put, List.setIfInBounds_toArray, List.set_cons_zero, List.set_cons_succ]
      refine' wpAnyH_take (i := 1) ?hi1_1 ?hs1_1 ?hf1_1 ?hr1_1 ?hQ1_1 ?hy1_1 (by assumption) ?rest1_1
      case hi1_1 => simp only [List.getElem?_toArray, List.getElem?_cons_succ, List.getElem?_cons_zero] <;> rfl
      case hs1_1 => kernel_rfl
      case hf1_1 => kernel_rfl
      case hr1_1 => kernel_rfl
      case hQ1_1 => exact fun _ _ _ h => h
      case hy1_1 => exact Or.inl ⟨by rfl, fun w hSw => by have q1 := cell_only e1 hSw (by show rb ≠ _; omega); have q2 := cell_only e2 hSw (by show rb ≠ _; omega); have q5 := cell_only e5 hSw (by show rb ≠ _; omega); have q6 := (hM2.touch hSw (by omega)).look HI.out; go_simp <;> (try with_reducible rfl)⟩
      simp only [Act.put, List.setIfInBounds_toArray, List.set_cons_zero, List.set_cons_succ]
      refine' wpAnyH_take (i := 2) ?hi2_1 ?hs2_1 ?hf2_1 ?hr2_1 ?hQ2_1 ?hy2_1 (by assumption) ?rest2_1
      case hi2_1 => simp only [List.getElem?_toArray, List.getElem?_cons_succ, List.getElem?_cons_zero] <;> rfl
      case hs2_1 => kernel_rfl
      case hf2_1 => kernel_rfl
      case hr2_1 => kernel_rfl
      case hQ2_1 => exact fun _ _ _ h => h
      case hy2_1 => exact Or.inl ⟨by rfl, fun w hSw => by have q1 := cell_only e1 hSw (by show rb ≠ _; omega); have q2 := cell_only e2 hSw (by show rb ≠ _; omega); have q5 := cell_only e5 hSw (by show rb ≠ _; omega); have q6 := (hM2.touch hSw (by omega)).look HI.out; go_simp <;> (try with_reducible rfl)⟩
      simp only [Act.put, List.setIfInBounds_toArray, List.set_cons_zero, List.set_cons_succ]
      refine' wpAnyH_take (i := 3) ?hi3_1 ?hs3_1 ?hf3_1 ?hr3_1 ?hQ3_1 ?hy3_1 (by assumption) ?rest3_1
      case hi3_1 => simp only [List.getElem?_toArray, List.getElem?_cons_succ, List.getElem?_cons_zero] <;> rfl
      case hs3_1 => kernel_rfl
      case hf3_1 => kernel_rfl
      case hr3_1 => kernel_rfl
      case hQ3_1 => exact fun _ _ _ h => h
      case hy3_1 => exact Or.inl ⟨by rfl, fun w hSw => by have q1 := cell_only e1 hSw (by show rb ≠ _; omega); have q2 := cell_only e2 hSw (by show rb ≠ _; omega); have q5 := cell_only e5 hSw (by show rb ≠ _; omega); have q6 := (hM2.touch hSw (by omega)).look HI.out; go_simp <;> (try with_reducible rfl)⟩
      simp only [Act.put, List.setIfInBounds_toArray, List.set_cons_zero, List.set_cons_succ]
      refine' wpAnyH_take (i := 4) ?hi4_1 ?hs4_1 ?hf4_1 ?hr4_1 ?hQ4_1 ?hy4_1 (by assumption) ?rest4_1
      case hi4_1 => simp only [List.getElem?_toArray, List.getElem?_cons_succ, List.getElem?_cons_zero] <;> rfl
      case hs4_1 => kernel_rfl
      case hf4_1 => kernel_rfl
      case hr4_1 => kernel_rfl
      case hQ4_1 => exact fun _ _ _ h => h
      case hy4_1 => exact Or.inl ⟨by rfl, fun w hSw => by have q1 := cell_only e1 hSw (by show rb ≠ _; omega); have q2 := cell_only e2 hSw (by show rb ≠ _; omega); have q5 := cell_only e5 hSw (by show rb ≠ _; omega); have q6 := (hM2.touch hSw (by omega)).look HI.out; go_simp <;> (try with_reducible rfl)⟩
      simp only [Act.put, List.setIfInBounds_toArray, List.set_cons_zero, List.set_cons_succ]
      refine' wpAnyH_take (i := 5) ?hi5_1 ?hs5_1 ?hf5_1 ?hr5_1 ?hQ5_1 ?hy5_1 (by assumption) ?rest5_1
      case hi5_1 => simp only [List.getElem?_toArray, List.getElem?_cons_succ, List.getElem?_cons_zero] <;> rfl
      case hs5_1 => kernel_rfl
      case hf5_1 => kernel_rfl
      case hr5_1 => kernel_rfl
      case hQ5_1 => exact fun _ _ _ h => h
      case hy5_1 => exact Or.inl ⟨by rfl, fun w hSw => by have q1 := cell_only e1 hSw (by show rb ≠ _; omega); have q2 := cell_only e2 hSw (by show rb ≠ _; omega); have q5 := cell_only e5 hSw (by show rb ≠ _; omega); have q6 := (hM2.touch hSw (by omega)).look HI.out; go_simp <;> (try with_reducible rfl)⟩
      simp only [Act.put, List.setIfInBounds_toArray, List.set_cons_zero, List.set_cons_succ]
      refine' wpAnyH_take (i := 6) ?hi6_1 ?hs6_1 ?hf6_1 ?hr6_1 ?hQ6_1 ?hy6_1 (by assumption) ?rest6_1
      case hi6_1 => simp only [List.getElem?_toArray, List.getElem?_cons_succ, List.getElem?_cons_zero] <;> rfl
      case hs6_1 => kernel_rfl
      case hf6_1 => kernel_rfl
      case hr6_1 => kernel_rfl
      case hQ6_1 => exact fun _ _ _ h => h
      case hy6_1 => exact Or.inl ⟨by rfl, fun w hSw => by have q1 := cell_only e1 hSw (by show rb ≠ _; omega); have q2 := cell_only e2 hSw (by show rb ≠ _; omega); have q5 := cell_only e5 hSw (by show rb ≠ _; omega); have q6 := (hM2.touch hSw (by omega)).look HI.out; go_simp <;> (try with_reducible rfl)⟩
      simp only [Act.put, List.setIfInBounds_toArray, List.set_cons_zero, List.set_cons_succ]
      refine' wpAnyH_take (i := 7) ?hi7_1 ?hs7_1 ?hf7_1 ?hr7_1 ?hQ7_1 ?hy7_1 (by assumption) ?rest7_1
      case hi7_1 => simp only [List.getElem?_toArray, List.getElem?_cons_succ, List.getElem?_cons_zero] <;> rfl
      case hs7_1 => kernel_rfl
      case hf7_1 => kernel_rfl
      case hr7_1 => kernel_rfl
      case hQ7_1 => exact fun _ _ _ h => h
      case hy7_1 => exact Or.inl ⟨by rfl, fun w hSw => by have q1 := cell_only e1 hSw (by show rb ≠ _; omega); have q2 := cell_only e2 hSw (by show rb ≠ _; omega); have q5 := cell_only e5 hSw (by show rb ≠ _; omega); have q6 := (hM2.touch hSw (by omega)).look HI.out; go_simp <;> (try with_reducible rfl)⟩
      simp only [Act.put, List.setIfInBounds_toArray, List.set_cons_zero, List.set_cons_succ]
      refine' wpAnyH_take (i := 8) ?hi8_1 ?hs8_1 ?hf8_1 ?hr8_1 ?hQ8_1 ?hy8_1 (by assumption) ?rest8_1
      case hi8_1 => simp only [List.getElem?_toArray, List.getElem?_cons_succ, List.getElem?_cons_zero] <;> rfl
      case hs8_1 => kernel_rfl
      case hf8_1 => kernel_rfl
      case hr8_1 => kernel_rfl
      case hQ8_1 => exact fun _ _ _ h => h
      case hy8_1 => exact Or.inl ⟨by rfl, fun w hSw => by have q1 := cell_only e1 hSw (by show rb ≠ _; omega); have q2 := cell_only e2 hSw (by show rb ≠ _; omega); have q5 := cell_only e5 hSw (by show rb ≠ _; omega); have q6 := (hM2.touch hSw (by omega)).look HI.out; go_simp <;> (try with_reducible rfl)⟩
      simp only [Act.put, List.setIfInBounds_toArray, List.set_cons_zero, List.set_cons_succ]
      refine' wpAnyH_take (i := 9) ?hi9_1 ?hs9_1 ?hf9_1 ?hr9_1 ?hQ9_1 ?hy9_1 (by assumption) ?rest9_1
      case hi9_1 => simp only [List.getElem?_toArray, List.getElem?_cons_succ, List.getElem?_cons_zero] <;> rfl
      case hs9_1 => kernel_rfl
      case hf9_1 => kernel_rfl
      case hr9_1 => kernel_rfl
      case hQ9_1 => exact fun _ _ _ h => h
      case hy9_1 => exact Or.inl ⟨by rfl, fun w hSw => by have q1 := cell_only e1 hSw (by show rb ≠ _; omega); have q2 := cell_only e2 hSw (by show rb ≠ _; omega); have q5 := cell_only e5 hSw (by show rb ≠ _; omega); have q6 := (hM2.touch hSw (by omega)).look HI.out; go_simp <;> (try with_reducible rfl)⟩
      simp only [Act.put, List.setIfInBounds_toArray, List.set_cons_zero, List.set_cons_succ]
      refine' wpAnyH_take (i := 10) ?hi10_1 ?hs10_1 ?hf10_1 ?hr10_1 ?hQ10_1 ?hy10_1 (by assumption) ?rest10_1
      case hi10_1 => simp only [List.getElem?_toArray, List.getElem?_cons_succ, List.getElem?_cons_zero] <;> rfl
      case hs10_1 => kernel_rfl
      case hf10_1 => kernel_rfl
      case hr10_1 => kernel_rfl
      case hQ10_1 => exact fun _ _ _ h => h
      case hy10_1 => exact Or.inl ⟨by rfl, fun w hSw => by have q1 := cell_only e1 hSw (by show rb ≠ _; omega); have q2 := cell_only e2 hSw (by show rb ≠ _; omega); have q5 := cell_only e5 hSw (by show rb ≠ _; omega); have q6 := (hM2.touch hSw (by omega)).look HI.out; go_simp <;> (try with_reducible rfl)⟩
      simp only [Act.put, List.setIfInBounds_toArray, List.set_cons_zero, List.set_cons_succ]
      refine' wpAnyH_take (i := 11) ?hi11_1 ?hs11_1 ?hf11_1 ?hr11_1 ?hQ11_1 ?hy11_1 (by assumption) ?rest11_1
      case hi11_1 => simp only [List.getElem?_toArray, List.getElem?_cons_succ, List.getElem?_cons_zero] <;> rfl
      case hs11_1 => kernel_rfl
      case hf11_1 => kernel_rfl
      case hr11_1 => kernel_rfl
      case hQ11_1 => exact fun _ _ _ h => h
      case hy11_1 => exact Or.inl ⟨by rfl, fun w hSw => by have q1 := cell_only e1 hSw (by show rb ≠ _; omega); have q2 := cell_only e2 hSw (by show rb ≠ _; omega); have q5 := cell_only e5 hSw (by show rb ≠ _; omega); have q6 := (hM2.touch hSw (by omega)).look HI.out; go_simp <;> (try with_reducible rfl)⟩
      simp only [Act.put, List.setIfInBounds_toArray, List.set_cons_zero, List.set_cons_succ]
      refine wpAnyH_ready (rs := [12]) (by kernel_rfl) (by simp) ?_
      refine AllReadyH.cons rfl (fun K hK => ?_) AllReadyH.nil
      go_simp
      with_reducible refine Calls.mono (HSR.out _ i (hS3.keep (Touch.drew (Touch.refl (fun _ => False) w3))) hlt) ?_
      rintro e w4 ⟨rfl, hS4, o4⟩
      go_wp2_with fail
      refine hK.out _ _ (hHeld.trans_ o4) (fun hHeld => ?_)
      clear hK K
      refine wpAnyH_done (by kernel_rfl) ?_ _
      refine NoPanic.normal ?_
      go_wp2_with fail
      go_roundw
      case rel => exact ⟨i + 1, by omega, by go_num, hS4, Only.trans_ o3 hHeld⟩
      case measure => simp [intOf]; omega
    · obtain rfl : i = r.toNat := by omega
      go_wp2_with fail
      refine Calls.mono (HHd.out _ _ hS2) ?_
      rintro e w4 ⟨rfl, k4⟩
      have hS4 := hS2.keep k4
      have hR4 := hR2.keep k4
      have hM4 := hM2.touch k4 (fun h => h)
      have o4 : Only bw w w4 := Only.trans_ o2 k4.only
      have z4 := k4.size
      have hb4 := hS4.ar.lt2
      clear e1 e2 hM2 hR2 hS2 o2
      have hr4 := hR4.lt
      go_wp2_with fail
      refine named_code (fun W5 hW5 => ?_)
      have B5 : BL W5 w4.heap.size 123 [.int .i64 c, .int .i64 ag, .int .i64 0, .bool false, .bool fi, .bool dn] := by rw [hW5]; exact BL.new1 _ _ _ [.int .i64 c, .int .i64 ag, .int .i64 0, .bool false, .bool fi, .bool dn] _ rfl rfl
      have K5 : Keeps w4 W5 := by rw [hW5]; exact (Touch.refl _ w4).alloc _
      have hS5 := hS4.keep K5
      have hR5 := hR4.keep K5
      have hM5 := hM4.touch K5 (fun h => h)
      have z5 := K5.size
      have o5 : Only bw w W5 := Only.trans_ o4 K5.only
      clear hW5 hS4 hR4 hM4 o4 K5
      have e1 := hR5.c 1 _ rfl
      have e2 := hR5.c 2 _ rfl
      have g0 := B5.c 0 _ rfl
      have g1 := B5.c 1 _ rfl
      have g2 := B5.c 2 _ rfl
      have g3 := B5.c 3 _ rfl
      have g4 := B5.c 4 _ rfl
      have g5 := B5.c 5 _ rfl
      refine wp_region_noPanic ?_
      refine wp_region_held_drew (S := (fun w' => Only bw W5 w')) (by kernel_rfl) (Only.refl _ W5).drew (fun hHeld => ?_)
      refine' wpAnyH_take (i := 0) ?hi0_2 ?hs0_2 ?hf0_2 ?hr0_2 ?hQ0_2 ?hy0_2 (by assumption) ?rest0_2
      case hi0_2 => simp only [List.getElem?_toArray, List.getElem?_cons_zero] <;> rfl
      case hs0_2 => kernel_rfl
      case hf0_2 => kernel_rfl
      case hr0_2 => kernel_rfl
      case hQ0_2 => exact fun _ _ _ h => h
      case hy0_2 => exact Or.inl ⟨by rfl, fun w hSw => by have q1 := cell_only e1 hSw (by show rb ≠ _; omega); have q2 := cell_only e2 hSw (by show rb ≠ _; omega); have p0 := cell_only g0 hSw (by show w4.heap.size ≠ _; omega); have p1 := cell_only g1 hSw (by show w4.heap.size ≠ _; omega); have p2 := cell_only g2 hSw (by show w4.heap.size ≠ _; omega); have p3 := cell_only g3 hSw (by show w4.heap.size ≠ _; omega); have p4 := cell_only g4 hSw (by show w4.heap.size ≠ _; omega); have p5 := cell_only g5 hSw (by show w4.heap.size ≠ _; omega); go_simp <;> (try with_reducible rfl)⟩
      simp only [Act.put, List.setIfInBounds_toArray, List.set_cons_zero, List.set_cons_succ]
      refine' wpAnyH_take (i := 1) ?hi1_2 ?hs1_2 ?hf1_2 ?hr1_2 ?hQ1_2 ?hy1_2 (by assumption) ?rest1_2
      case hi1_2 => simp only [List.getElem?_toArray, List.getElem?_cons_succ, List.getElem?_cons_zero] <;> rfl
      case hs1_2 => kernel_rfl
      case hf1_2 => kernel_rfl
      case hr1_2 => kernel_rfl
      case hQ1_2 => exact fun _ _ _ h => h
      case hy1_2 => exact Or.inl ⟨by rfl, fun w hSw => by have q1 := cell_only e1 hSw (by show rb ≠ _; omega); have q2 := cell_only e2 hSw (by show rb ≠ _; omega); have p0 := cell_only g0 hSw (by show w4.heap.size ≠ _; omega); have p1 := cell_only g1 hSw (by show w4.heap.size ≠ _; omega); have p2 := cell_only g2 hSw (by show w4.heap.size ≠ _; omega); have p3 := cell_only g3 hSw (by show w4.heap.size ≠ _; omega); have p4 := cell_only g4 hSw (by show w4.heap.size ≠ _; omega); have p5 := cell_only g5 hSw (by show w4.heap.size ≠ _; omega); go_simp <;> (try with_reducible rfl)⟩
      simp only [Act.put, List.setIfInBounds_toArray, List.set_cons_zero, List.set_cons_succ]
      refine' wpAnyH_take (i := 2) ?hi2_2 ?hs2_2 ?hf2_2 ?hr2_2 ?hQ2_2 ?hy2_2 (by assumption) ?rest2_2
      case hi2_2 => simp only [List.getElem?_toArray, List.getElem?_cons_succ, List.getElem?_cons_zero] <;> rfl
      case hs2_2 => kernel_rfl
      case hf2_2 => kernel_rfl
      case hr2_2 => kernel_rfl
      case hQ2_2 => exact fun _ _ _ h => h
      case hy2_2 => exact Or.inl ⟨by rfl, fun w hSw => by have q1 := cell_only e1 hSw (by show rb ≠ _; omega); have q2 := cell_only e2 hSw (by show rb ≠ _; omega); have p0 := cell_only g0 hSw (by show w4.heap.size ≠ _; omega); have p1 := cell_only g1 hSw (by show w4.heap.size ≠ _; omega); have p2 := cell_only g2 hSw (by show w4.heap.size ≠ _; omega); have p3 := cell_only g3 hSw (by show w4.heap.size ≠ _; omega); have p4 := cell_only g4 hSw (by show w4.heap.size ≠ _; omega); have p5 := cell_only g5 hSw (by show w4.heap.size ≠ _; omega); go_simp <;> (try with_reducible rfl)⟩
      simp only [Act.put, List.setIfInBounds_toArray, List.set_cons_zero, List.set_cons_succ]
      refine' wpAnyH_take (i := 3) ?hi3_2 ?hs3_2 ?hf3_2 ?hr3_2 ?hQ3_2 ?hy3_2 (by assumption) ?rest3_2
      case hi3_2 => simp only [List.getElem?_toArray, List.getElem?_cons_succ, List.getElem?_cons_zero] <;> rfl
      case hs3_2 => kernel_rfl
      case hf3_2 => kernel_rfl
      case hr3_2 => kernel_rfl
      case hQ3_2 => exact fun _ _ _ h => h
      case hy3_2 => exact Or.inl ⟨by rfl, fun w hSw => by have q1 := cell_only e1 hSw (by show rb ≠ _; omega); have q2 := cell_only e2 hSw (by show rb ≠ _; omega); have p0 := cell_only g0 hSw (by show w4.heap.size ≠ _; omega); have p1 := cell_only g1 hSw (by show w4.heap.size ≠ _; omega); have p2 := cell_only g2 hSw (by show w4.heap.size ≠ _; omega); have p3 := cell_only g3 hSw (by show w4.heap.size ≠ _; omega); have p4 := cell_only g4 hSw (by show w4.heap.size ≠ _; omega); have p5 := cell_only g5 hSw (by show w4.heap.size ≠ _; omega); go_simp <;> (try with_reducible rfl)⟩
      simp only [Act.put, List.setIfInBounds_toArray, List.set_cons_zero, List.set_cons_succ]
      refine' wpAnyH_take (i := 4) ?hi4_2 ?hs4_2 ?hf4_2 ?hr4_2 ?hQ4_2 ?hy4_2 (by assumption) ?rest4_2
      case hi4_2 => simp only [List.getElem?_toArray, List.getElem?_cons_succ, List.getElem?_cons_zero] <;> rfl
      case hs4_2 => kernel_rfl
      case hf4_2 => kernel_rfl
      case hr4_2 => kernel_rfl
      case hQ4_2 => exact fun _ _ _ h => h
      case hy4_2 => exact Or.inl ⟨by rfl, fun w hSw => by have q1 := cell_only e1 hSw (by show rb ≠ _; omega); have q2 := cell_only e2 hSw (by show rb ≠ _; omega); have p0 := cell_only g0 hSw (by show w4.heap.size ≠ _; omega); have p1 := cell_only g1 hSw (by show w4.heap.size ≠ _; omega); have p2 := cell_only g2 hSw (by show w4.heap.size ≠ _; omega); have p3 := cell_only g3 hSw (by show w4.heap.size ≠ _; omega); have p4 := cell_only g4 hSw (by show w4.heap.size ≠ _; omega); have p5 := cell_only g5 hSw (by show w4.heap.size ≠ _; omega); go_simp <;> (try with_reducible rfl)⟩
      simp only [Act.put, List.setIfInBounds_toArray, List.set_cons_zero, List.set_cons_succ]
      refine' wpAnyH_take (i := 5) ?hi5_2 ?hs5_2 ?hf5_2 ?hr5_2 ?hQ5_2 ?hy5_2 (by assumption) ?rest5_2
      case hi5_2 => simp only [List.getElem?_toArray, List.getElem?_cons_succ, List.getElem?_cons_zero] <;> rfl
      case hs5_2 => kernel_rfl
      case hf5_2 => kernel_rfl
      case hr5_2 => kernel_rfl
      case hQ5_2 => exact fun _ _ _ h => h
      case hy5_2 => exact Or.inl ⟨by rfl, fun w hSw => by have q1 := cell_only e1 hSw (by show rb ≠ _; omega); have q2 := cell_only e2 hSw (by show rb ≠ _; omega); have p0 := cell_only g0 hSw (by show w4.heap.size ≠ _; omega); have p1 := cell_only g1 hSw (by show w4.heap.size ≠ _; omega); have p2 := cell_only g2 hSw (by show w4.heap.size ≠ _; omega); have p3 := cell_only g3 hSw (by show w4.heap.size ≠ _; omega); have p4 := cell_only g4 hSw (by show w4.heap.size ≠ _; omega); have p5 := cell_only g5 hSw (by show w4.heap.size ≠ _; omega); go_simp <;> (try with_reducible rfl)⟩
      simp only [Act.put, List.setIfInBounds_toArray, List.set_cons_zero, List.set_cons_succ]
      refine wpAnyH_ready (rs := [6]) (by kernel_rfl) (by simp) ?_
      refine AllReadyH.cons rfl (fun K hK => ?_) AllReadyH.nil
      go_simp
      with_reducible refine Calls.mono (HSH.out _ (hS5.keep (Touch.drew (Touch.refl (fun _ => False) W5)))) ?_
      rintro e w6 ⟨rfl, hS6, o6⟩
      go_wp2_with fail
      refine hK.out _ _ (hHeld.trans_ o6) (fun hHeld => ?_)
      clear hK K
      refine wpAnyH_done (by kernel_rfl) ?_ _
      refine NoPanic.normal ?_
      have hR6 := hR5.touch hHeld hrb
      have hM2 := hM5.touch hHeld hmb
      have o6' : Only bw w w6 := Only.trans_ o5 hHeld
      clear e1 e2 g0 g1 g2 g3 g4 g5 hHeld o6 hM5 hR5 B5
      have e0 := hR6.c 0 _ rfl
      have e5 := hR6.c 5 _ rfl
      go_wp2_with fail
      refine wp_region_noPanic ?_
      refine wp_region_held_drew (S := (fun w' => Only bw w6 w')) (by kernel_rfl) (Only.refl _ w6).drew (fun hHeld => ?_)
      refine' wpAnyH_take (i := 0) ?hi0_3 ?hs0_3 ?hf0_3 ?hr0_3 ?hQ0_3 ?hy0_3 (by assumption) ?rest0_3
      case hi0_3 => simp only [List.getElem?_toArray, List.getElem?_cons_zero] <;> rfl
      case hs0_3 => kernel_rfl
      case hf0_3 => kernel_rfl
      case hr0_3 => kernel_rfl
      case hQ0_3 => exact fun _ _ _ h => h
      case hy0_3 => exact Or.inl ⟨by rfl, fun w hSw => by have q0 := cell_only e0 hSw (by show rb ≠ _; omega); have q5 := cell_only e5 hSw (by show rb ≠ _; omega); have q6 := (hM2.touch hSw (by omega)).look Ha.out; rw [HPa.out] at q6; dsimp only [Option.getD_some] at q6; go_simp <;> (try with_reducible rfl)⟩
      simp only [Act.put, List.setIfInBounds_toArray, List.set_cons_zero, List.set_cons_succ]
      refine' wpAnyH_take (i := 1) ?hi1_3 ?hs1_3 ?hf1_3 ?hr1_3 ?hQ1_3 ?hy1_3 (by assumption) ?rest1_3
      case hi1_3 => simp only [List.getElem?_toArray, List.getElem?_cons_succ, List.getElem?_cons_zero] <;> rfl
      case hs1_3 => kernel_rfl
      case hf1_3 => kernel_rfl
      case hr1_3 => kernel_rfl
      case hQ1_3 => exact fun _ _ _ h => h
      case hy1_3 => exact Or.inl ⟨by rfl, fun w hSw => by have q0 := cell_only e0 hSw (by show rb ≠ _; omega); have q5 := cell_only e5 hSw (by show rb ≠ _; omega); have q6 := (hM2.touch hSw (by omega)).look Ha.out; rw [HPa.out] at q6; dsimp only [Option.getD_some] at q6; go_simp <;> (try with_reducible rfl)⟩
      simp only [Act.put, List.setIfInBounds_toArray, List.set_cons_zero, List.set_cons_succ]
      refine' wpAnyH_take (i := 2) ?hi2_3 ?hs2_3 ?hf2_3 ?hr2_3 ?hQ2_3 ?hy2_3 (by assumption) ?rest2_3
      case hi2_3 => simp only [List.getElem?_toArray, List.getElem?_cons_succ, List.getElem?_cons_zero] <;> rfl
      case hs2_3 => kernel_rfl
      case hf2_3 => kernel_rfl
      case hr2_3 => kernel_rfl
      case hQ2_3 => exact fun _ _ _ h => h
      case hy2_3 => exact Or.inl ⟨by rfl, fun w hSw => by have q0 := cell_only e0 hSw (by show rb ≠ _; omega); have q5 := cell_only e5 hSw (by show rb ≠ _; omega); have q6 := (hM2.touch hSw (by omega)).look Ha.out; rw [HPa.out] at q6; dsimp only [Option.getD_some] at q6; go_simp <;> (try with_reducible rfl)⟩
      simp only [Act.put, List.setIfInBounds_toArray, List.set_cons_zero, List.set_cons_succ]
      refine' wpAnyH_take (i := 3) ?hi3_3 ?hs3_3 ?hf3_3 ?hr3_3 ?hQ3_3 ?hy3_3 (by assumption) ?rest3_3
      case hi3_3 => simp only [List.getElem?_toArray, List.getElem?_cons_succ, List.getElem?_cons_zero] <;> rfl
      case hs3_3 => kernel_rfl
      case hf3_3 => kernel_rfl
      case hr3_3 => kernel_rfl
      case hQ3_3 => exact fun _ _ _ h => h
      case hy3_3 => exact Or.inl ⟨by rfl, fun w hSw => by have q0 := cell_only e0 hSw (by show rb ≠ _; omega); have q5 := cell_only e5 hSw (by show rb ≠ _; omega); have q6 := (hM2.touch hSw (by omega)).look Ha.out; rw [HPa.out] at q6; dsimp only [Option.getD_some] at q6; go_simp <;> (try with_reducible rfl)⟩
      simp only [Act.put, List.setIfInBounds_toArray, List.set_cons_zero, List.set_cons_succ]
      refine' wpAnyH_take (i := 4) ?hi4_3 ?hs4_3 ?hf4_3 ?hr4_3 ?hQ4_3 ?hy4_3 (by assumption) ?rest4_3
      case hi4_3 => simp only [List.getElem?_toArray, List.getElem?_cons_succ, List.getElem?_cons_zero] <;> rfl
      case hs4_3 => kernel_rfl
      case hf4_3 => kernel_rfl
      case hr4_3 => kernel_rfl
      case hQ4_3 => exact fun _ _ _ h => h
      case hy4_3 => exact Or.inl ⟨by rfl, fun w hSw => by have q0 := cell_only e0 hSw (by show rb ≠ _; omega); have q5 := cell_only e5 hSw (by show rb ≠ _; omega); have q6 := (hM2.touch hSw (by omega)).look Ha.out; rw [HPa.out] at q6; dsimp only [Option.getD_some] at q6; go_simp <;> (try with_reducible rfl)⟩
      simp only [Act.put, List.setIfInBounds_toArray, List.set_cons_zero, List.set_cons_succ]
      refine' wpAnyH_take (i := 5) ?hi5_3 ?hs5_3 ?hf5_3 ?hr5_3 ?hQ5_3 ?hy5_3 (by assumption) ?rest5_3
      case hi5_3 => simp only [List.getElem?_toArray, List.getElem?_cons_succ, List.getElem?_cons_zero] <;> rfl
      case hs5_3 => kernel_rfl
      case hf5_3 => kernel_rfl
      case hr5_3 => kernel_rfl
      case hQ5_3 => exact fun _ _ _ h => h
      case hy5_3 => exact Or.inl ⟨by rfl, fun w hSw => by have q0 := cell_only e0 hSw (by show rb ≠ _; omega); have q5 := cell_only e5 hSw (by show rb ≠ _; omega); have q6 := (hM2.touch hSw (by omega)).look Ha.out; rw [HPa.out] at q6; dsimp only [Option.getD_some] at q6; go_simp <;> (try with_reducible rfl)⟩
      simp only [Act.put, List.setIfInBounds_toArray, List.set_cons_zero, List.set_cons_succ]
      refine' wpAnyH_take (i := 6) ?hi6_3 ?hs6_3 ?hf6_3 ?hr6_3 ?hQ6_3 ?hy6_3 (by assumption) ?rest6_3
      case hi6_3 => simp only [List.getElem?_toArray, List.getElem?_cons_succ, List.getElem?_cons_zero] <;> rfl
      case hs6_3 => kernel_rfl
      case hf6_3 => kernel_rfl
      case hr6_3 => kernel_rfl
      case hQ6_3 => exact fun _ _ _ h => h
      case hy6_3 => exact Or.inl ⟨by rfl, fun w hSw => by have q0 := cell_only e0 hSw (by show rb ≠ _; omega); have q5 := cell_only e5 hSw (by show rb ≠ _; omega); have q6 := (hM2.touch hSw (by omega)).look Ha.out; rw [HPa.out] at q6; dsimp only [Option.getD_some] at q6; go_simp <;> (try with_reducible rfl)⟩
      simp only [Act.put, List.setIfInBounds_toArray, List.set_cons_zero, List.set_cons_succ]
      refine' wpAnyH_take (i := 7) ?hi7_3 ?hs7_3 ?hf7_3 ?hr7_3 ?hQ7_3 ?hy7_3 (by assumption) ?rest7_3
      case hi7_3 => simp only [List.getElem?_toArray, List.getElem?_cons_succ, List.getElem?_cons_zero] <;> rfl
      case hs7_3 => kernel_rfl
      case hf7_3 => kernel_rfl
      case hr7_3 => kernel_rfl
      case hQ7_3 => exact fun _ _ _ h => h
      case hy7_3 => exact Or.inl ⟨by rfl, fun w hSw => by have q0 := cell_only e0 hSw (by show rb ≠ _; omega); have q5 := cell_only e5 hSw (by show rb ≠ _; omega); have q6 := (hM2.touch hSw (by omega)).look Ha.out; rw [HPa.out] at q6; dsimp only [Option.getD_some] at q6; go_simp <;> (try with_reducible rfl)⟩
      simp only [Act.put, List.setIfInBounds_toArray, List.set_cons_zero, List.set_cons_succ]
      refine' wpAnyH_take (i := 8) ?hi8_3 ?hs8_3 ?hf8_3 ?hr8_3 ?hQ8_3 ?hy8_3 (by assumption) ?rest8_3
      case hi8_3 => simp only [List.getElem?_toArray, List.getElem?_cons_succ, List.getElem?_cons_zero] <;> rfl
      case hs8_3 => kernel_rfl
      case hf8_3 => kernel_rfl
      case hr8_3 => kernel_rfl
      case hQ8_3 => exact fun _ _ _ h => h
      case hy8_3 => exact Or.inl ⟨by rfl, fun w hSw => by have q0 := cell_only e0 hSw (by show rb ≠ _; omega); have q5 := cell_only e5 hSw (by show rb ≠ _; omega); have q6 := (hM2.touch hSw (by omega)).look Ha.out; rw [HPa.out] at q6; dsimp only [Option.getD_some] at q6; go_simp <;> (try with_reducible rfl)⟩
      simp only [Act.put, List.setIfInBounds_toArray, List.set_cons_zero, List.set_cons_succ]
      refine' wpAnyH_take (i := 9) ?hi9_3 ?hs9_3 ?hf9_3 ?hr9_3 ?hQ9_3 ?hy9_3 (by assumption) ?rest9_3
      case hi9_3 => simp only [List.getElem?_toArray, List.getElem?_cons_succ, List.getElem?_cons_zero] <;> rfl
      case hs9_3 => kernel_rfl
      case hf9_3 => kernel_rfl
      case hr9_3 => kernel_rfl
      case hQ9_3 => exact fun _ _ _ h => h
      case hy9_3 => exact Or.inl ⟨by rfl, fun w hSw => by have q0 := cell_only e0 hSw (by show rb ≠ _; omega); have q5 := cell_only e5 hSw (by show rb ≠ _; omega); have q6 := (hM2.touch hSw (by omega)).look Ha.out; rw [HPa.out] at q6; dsimp only [Option.getD_some] at q6; go_simp <;> (try with_reducible rfl)⟩
      simp only [Act.put, List.setIfInBounds_toArray, List.set_cons_zero, List.set_cons_succ]
      refine' wpAnyH_take (i := 10) ?hi10_3 ?hs10_3 ?hf10_3 ?hr10_3 ?hQ10_3 ?hy10_3 (by assumption) ?rest10_3
      case hi10_3 => simp only [List.getElem?_toArray, List.getElem?_cons_succ, List.getElem?_cons_zero] <;> rfl
      case hs10_3 => kernel_rfl
      case hf10_3 => kernel_rfl
      case hr10_3 => kernel_rfl
      case hQ10_3 => exact fun _ _ _ h => h
      case hy10_3 => exact Or.inl ⟨by rfl, fun w hSw => by have q0 := cell_only e0 hSw (by show rb ≠ _; omega); have q5 := cell_only e5 hSw (by show rb ≠ _; omega); have q6 := (hM2.touch hSw (by omega)).look Ha.out; rw [HPa.out] at q6; dsimp only [Option.getD_some] at q6; go_simp <;> (try with_reducible rfl)⟩
      simp only [Act.put, List.setIfInBounds_toArray, List.set_cons_zero, List.set_cons_succ]
      refine' wpAnyH_take (i := 11) ?hi11_3 ?hs11_3 ?hf11_3 ?hr11_3 ?hQ11_3 ?hy11_3 (by assumption) ?rest11_3
      case hi11_3 => simp only [List.getElem?_toArray, List.getElem?_cons_succ, List.getElem?_cons_zero] <;> rfl
      case hs11_3 => kernel_rfl
      case hf11_3 => kernel_rfl
      case hr11_3 => kernel_rfl
      case hQ11_3 => exact fun _ _ _ h => h
      case hy11_3 => exact Or.inl ⟨by rfl, fun w hSw => by have q0 := cell_only e0 hSw (by show rb ≠ _; omega); have q5 := cell_only e5 hSw (by show rb ≠ _; omega); have q6 := (hM2.touch hSw (by omega)).look Ha.out; rw [HPa.out] at q6; dsimp only [Option.getD_some] at q6; go_simp <;> (try with_reducible rfl)⟩
      simp only [Act.put, List.setIfInBounds_toArray, List.set_cons_zero, List.set_cons_succ]
      refine wpAnyH_ready (rs := [12]) (by kernel_rfl) (by simp) ?_
      refine AllReadyH.cons rfl (fun K hK => ?_) AllReadyH.nil
      go_simp
      with_reducible refine Calls.mono (HMv.out _ (hS6.keep (Touch.drew (Touch.refl (fun _ => False) w6))).ar) ?_
      rintro e w7 ⟨rfl, hA7, o7⟩
      go_wp2_with fail
      refine hK.out _ _ (hHeld.trans_ o7) (fun hHeld => ?_)
      clear hK K
      refine wpAnyH_done (by kernel_rfl) ?_ _
      refine NoPanic.normal ?_
      go_wp2_with fail
      go_returns
      exact ⟨⟨_, rfl⟩, hS6.only hA7 hHeld, Only.trans_ o6' hHeld⟩

end Go.Proofs.YtkjgfblkbjlohaaGreat
