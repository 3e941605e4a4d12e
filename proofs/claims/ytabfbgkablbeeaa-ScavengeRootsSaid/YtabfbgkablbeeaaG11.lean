/- Layer 6, object: what holds where an object stands; SetRef, SetNum. -/
import Derived.Test.YtabfbgkablbeeaaG10
set_option linter.all false

namespace Go.Proofs.Ytabfbgkablbeeaa
open Go.RowKit

section
variable {n m : Nat} {f : Nat → Int} {C : Nat → Cl} {a : Int}
/-- What stands there, where something does. -/
theorem at_cases (h : (atT n f m C a).2 = 0) : thB n a 1 = true ∧ (rawH (f a.toNat)).ok ∧
    (((rawH (f a.toNat)).cls = 0 ∧ (rawH (f a.toNat)).mark = true ∧ atT n f m C a = (⟨rawH (f a.toNat), 0, 0, 1⟩, 0)) ∨
     ((rawH (f a.toNat)).cls = 0 ∧ (rawH (f a.toNat)).mark = false ∧ a + 1 < n ∧ 2 ≤ f (a + 1).toNat ∧ thB n a (f (a + 1).toNat) = true ∧ atT n f m C a = (⟨rawH (f a.toNat), 0, 0, f (a + 1).toNat⟩, 0)) ∨
     ((rawH (f a.toNat)).cls ≠ 0 ∧ a + 1 < n ∧ shE C m (rawH (f a.toNat)).cls (f (a + 1).toNat) = 0 ∧
       thB n a (2 + shR C m (rawH (f a.toNat)).cls (f (a + 1).toNat) + shD C m (rawH (f a.toNat)).cls (f (a + 1).toNat)) = true ∧
       atT n f m C a = (⟨rawH (f a.toNat), shR C m (rawH (f a.toNat)).cls (f (a + 1).toNat), shD C m (rawH (f a.toNat)).cls (f (a + 1).toNat), 2 + shR C m (rawH (f a.toNat)).cls (f (a + 1).toNat) + shD C m (rawH (f a.toNat)).cls (f (a + 1).toNat)⟩, 0))) := by
  by_cases h1 : thB n a 1 = false
  · unfold atT at h; rw [if_pos h1] at h; cases h
  have h1' : thB n a 1 = true := by simpa using h1
  refine ⟨h1', ?_⟩
  by_cases h2 : (rawH (f a.toNat)).ok
  · refine ⟨h2, ?_⟩
    by_cases h3 : (rawH (f a.toNat)).cls = 0 ∧ (rawH (f a.toNat)).mark = true
    · exact .inl ⟨h3.1, h3.2, atT_one h1' h2 rfl h3.1 h3.2⟩
    · by_cases h4 : a + 1 < n
      · by_cases h5 : (rawH (f a.toNat)).cls = 0
        · have h6 : (rawH (f a.toNat)).mark = false := by
            cases hm : (rawH (f a.toNat)).mark with
            | false => rfl
            | true => exact absurd ⟨h5, hm⟩ h3
          by_cases h7 : f (a + 1).toNat < 2 ∨ thB n a (f (a + 1).toNat) = false
          · rw [atT_gap0 h1' h2 rfl h5 h6 h4 rfl h7] at h; cases h
          · have h8 : ¬ f (a + 1).toNat < 2 := fun h => h7 (.inl h)
            have h9 : thB n a (f (a + 1).toNat) = true := by
              cases hh : thB n a (f (a + 1).toNat) with
              | true => rfl
              | false => exact absurd (.inr hh) h7
            exact .inr (.inl ⟨h5, h6, h4, by omega, h9, atT_gap h1' h2 rfl h5 h6 h4 rfl h8 h9⟩)
        · by_cases h7 : shE C m (rawH (f a.toNat)).cls (f (a + 1).toNat) = 0
          · cases h8 : thB n a (2 + shR C m (rawH (f a.toNat)).cls (f (a + 1).toNat) + shD C m (rawH (f a.toNat)).cls (f (a + 1).toNat)) with
            | false => rw [atT_far h1' h2 rfl h5 h4 rfl h7 rfl rfl h8] at h; cases h
            | true => exact .inr (.inr ⟨h5, h4, h7, rfl, atT_obj h1' h2 rfl h5 h4 rfl h7 rfl rfl h8⟩)
          · rw [atT_shape h1' h2 rfl h5 h4 rfl h7] at h; cases h
      · rw [atT_end h1' h2 rfl h3 h4] at h; cases h
  · unfold atT at h; rw [if_neg h1, if_pos h2] at h; cases h
/-- Something that stands there lies within. -/
theorem at_ok (hC : ∀ j, j < m → (C j).ok) (h : (atT n f m C a).2 = 0) : 1 ≤ a ∧ 1 ≤ (atT n f m C a).1.words ∧ a + (atT n f m C a).1.words ≤ n ∧
    0 ≤ (atT n f m C a).1.refs ∧ (atT n f m C a).1.refs ≤ 60 ∧ 0 ≤ (atT n f m C a).1.data ∧ (atT n f m C a).1.data ≤ 30 ∧
    ((atT n f m C a).1.is = true → (atT n f m C a).1.words = 2 + (atT n f m C a).1.refs + (atT n f m C a).1.data) := by
  obtain ⟨h1, h2, h3 | h3 | h3⟩ := at_cases h
  · obtain ⟨b1, b2, b3, b4⟩ := thB_true.1 h1
    obtain ⟨c1, c2, c3⟩ := h3
    rw [c3]
    dsimp only
    refine ⟨b1, by omega, by omega, by omega, by omega, by omega, by omega, fun hh => ?_⟩
    simp only [Th.is, c1] at hh
    cases hh
  · obtain ⟨c1, c2, c3, c4, c5, c6⟩ := h3
    obtain ⟨b1, b2, b3, b4⟩ := thB_true.1 c5
    rw [c6]
    dsimp only
    refine ⟨b1, b2, by omega, by omega, by omega, by omega, by omega, fun hh => ?_⟩
    simp only [Th.is, c1] at hh
    cases hh
  · obtain ⟨c1, c2, c3, c4, c5⟩ := h3
    obtain ⟨b1, b2, b3, b4⟩ := thB_true.1 c4
    have hb := sh_bd hC c3
    rw [c5]
    dsimp only
    exact ⟨b1, b2, by omega, hb.1, hb.2.1, hb.2.2.1, hb.2.2.2, fun _ => rfl⟩
theorem obj_zero (h : (objP (atT n f m C a)).2 = 0) : objP (atT n f m C a) = atT n f m C a ∧ (atT n f m C a).2 = 0 ∧ (atT n f m C a).1.is = true := by
  by_cases h1 : (atT n f m C a).2 = 0 ∧ (atT n f m C a).1.hd.cls = 0
  · rw [objP_kind h1.1 h1.2] at h; cases h
  · rw [objP_same h1] at h
    refine ⟨objP_same h1, h, ?_⟩
    unfold Th.is
    simpa using fun hc => h1 ⟨h, hc⟩
/-- An object lies within. -/
theorem obj_ok (hC : ∀ j, j < m → (C j).ok) (h : (objP (atT n f m C a)).2 = 0) : 1 ≤ a ∧ 0 ≤ (objP (atT n f m C a)).1.refs ∧ (objP (atT n f m C a)).1.refs ≤ 60 ∧
    0 ≤ (objP (atT n f m C a)).1.data ∧ (objP (atT n f m C a)).1.data ≤ 30 ∧ a + 2 + (objP (atT n f m C a)).1.refs + (objP (atT n f m C a)).1.data ≤ n := by
  obtain ⟨h1, h2, h3⟩ := obj_zero h
  obtain ⟨k1, k2, k3, k4, k5, k6, k7, k8⟩ := at_ok hC h2
  rw [h1]
  have := k8 h3
  exact ⟨k1, k4, k5, k6, k7, by omega⟩
end

/-- The error of a field. -/
def slE (p : Th × Int) (lim fl : Int) : Int := if p.2 = 0 then (if 0 ≤ fl ∧ fl < lim then 0 else 1) else p.2
theorem slE_zero {p : Th × Int} {lim fl : Int} : slE p lim fl = 0 ↔ p.2 = 0 ∧ 0 ≤ fl ∧ fl < lim := by
  unfold slE
  by_cases h : p.2 = 0
  · rw [if_pos h]
    by_cases h2 : 0 ≤ fl ∧ fl < lim
    · rw [if_pos h2]; simp [h, h2]
    · rw [if_neg h2]; simp [h]; omega
  · rw [if_neg h]; simp [h]
theorem slot_bad (ba bw n : Nat) (f : Nat → Int) (bt : Nat) (A : Option Addr) (m cap : Nat) (C : Nat → Cl) (w : World) (h : St w ba bw n f bt A m cap C) (a fl : Int) (hE : slE (objP (atT n f m C a)) (objP (atT n f m C a)).1.refs fl ≠ 0) :
    Calls Try.prog 45 #[stV ba bt, .int .i64 a, .int .i64 fl] w (ErrAt (slE (objP (atT n f m C a)) (objP (atT n f m C a)).1.refs fl) w) := by
  have hat := fun w' (k : Keeps w w') => object_any ba bw n f bt A m cap C w' (h.keep k) a
  generalize objP (atT n f m C a) = p at *
  by_cases h1 : p.2 = 0
  · have e1 : slE p p.1.refs fl = 1 := by
      unfold slE; rw [if_pos h1, if_neg (fun hh => hE (slE_zero.2 ⟨h1, hh⟩))]
    rw [e1]
    by_cases h2 : fl < 0
    · exact slot_neg _ _ a fl w p hat h1 h2
    · exact slot_far _ _ a fl w p hat h1 (by omega) (by
        rcases Int.lt_or_le fl p.1.refs with h3 | h3
        · exact absurd (slE_zero.2 ⟨h1, by omega, h3⟩) hE
        · exact h3)
  · have e1 : slE p p.1.refs fl = p.2 := by unfold slE; rw [if_neg h1]
    rw [e1]
    exact slot_err _ _ a fl w p hat h1
theorem cell_bad (ba bw n : Nat) (f : Nat → Int) (bt : Nat) (A : Option Addr) (m cap : Nat) (C : Nat → Cl) (w : World) (h : St w ba bw n f bt A m cap C) (a fl : Int) (hE : slE (objP (atT n f m C a)) (objP (atT n f m C a)).1.data fl ≠ 0) :
    Calls Try.prog 73 #[stV ba bt, .int .i64 a, .int .i64 fl] w (ErrAt (slE (objP (atT n f m C a)) (objP (atT n f m C a)).1.data fl) w) := by
  have hat := fun w' (k : Keeps w w') => object_any ba bw n f bt A m cap C w' (h.keep k) a
  generalize objP (atT n f m C a) = p at *
  by_cases h1 : p.2 = 0
  · have e1 : slE p p.1.data fl = 1 := by
      unfold slE; rw [if_pos h1, if_neg (fun hh => hE (slE_zero.2 ⟨h1, hh⟩))]
    rw [e1]
    by_cases h2 : fl < 0
    · exact cell_neg _ _ a fl w p hat h1 h2
    · exact cell_far _ _ a fl w p hat h1 (by omega) (by
        rcases Int.lt_or_le fl p.1.data with h3 | h3
        · exact absurd (slE_zero.2 ⟨h1, by omega, h3⟩) hE
        · exact h3)
  · have e1 : slE p p.1.data fl = p.2 := by unfold slE; rw [if_neg h1]
    rw [e1]
    exact cell_err _ _ a fl w p hat h1

theorem setref_core (ba bw n : Nat) (f : Nat → Int) (bt : Nat) (A : Option Addr) (m cap : Nat) (C : Nat → Cl) (w : World) (h : St w ba bw n f bt A m cap C) (a fl v x : Int) (hs : ∀ w', Keeps w w' → Calls Try.prog 45 #[stV ba bt, .int .i64 a, .int .i64 fl] w' fun e w2 => e = .returned (.tuple #[.int .i64 x, .int .i64 0]) ∧ Keeps w' w2) (h0 : 0 ≤ x) (h1 : x < n) :
    Calls Try.prog 18 #[stV ba bt, .int .i64 a, .int .i64 fl, .int .i64 v] w fun e w' => e = .returned (.int .i64 0) ∧ St w' ba bw n (putF f x.toNat v) bt A m cap C ∧ Only bw w w' := by
  have hSt := Lib.hid h
  have HS := Lib.hid hs
  have HT := Lib.hid (fun w' (h : St w' ba bw n f bt A m cap C) => ostore_yes ba bw n f bt A m cap C w' h v x h0 h1)
  have hlt := h.ar.lt2
  clear h hs
  unfold stV at *
  go_enter Try.func18, Try.ntmps18
  go_wp2_with fail
  refine named (fun W1 hW1 => ?_)
  have KW1 : Keeps w W1 := by rw [hW1]; exact ((Touch.refl _ w).alloc _)
  have BW1_S : BL W1 (w.heap.size) 34 [.pointer (some ⟨ba, 0, none⟩), .pointer (some ⟨bt, 0, none⟩)] := by rw [hW1]; exact (BL.new1 _ _ _ [.pointer (some ⟨ba, 0, none⟩), .pointer (some ⟨bt, 0, none⟩)] _ (by simp) rfl)
  have zW1 : w.heap.size + 1 ≤ W1.heap.size := by rw [hW1]; simp
  clear hW1
  have l2 := BW1_S.lt
  refine Calls.mono (HS.out _ KW1) ?_
  rintro e w3 ⟨rfl, kw3⟩
  have Kw3 := Keeps.trans KW1 kw3
  have Bw3_S := BL.keep BW1_S kw3
  have zw3 := kw3.size
  clear l2 BW1_S KW1 kw3
  have l4 := Bw3_S.lt
  have c5 : w3.cell? ⟨w.heap.size, 0, none⟩ = some (.pointer (some ⟨ba, 0, none⟩)) := Bw3_S.c 0 _ rfl
  have c6 : w3.cell? ⟨w.heap.size, 1, none⟩ = some (.pointer (some ⟨bt, 0, none⟩)) := Bw3_S.c 1 _ rfl
  go_wp2_with fail
  refine Calls.mono (HT.out _ (hSt.out.keep Kw3)) ?_
  rintro e w9 ⟨rfl, s9, o9⟩
  go_wp2_with fail
  go_returns
  exact ⟨rfl, s9, (Touch.only Kw3).trans_ o9⟩

theorem setref_err (P Q : Option Addr) (a fl v x : Int) (w : World) (hx : x ≠ 0) (hs : ∀ w', Keeps w w' → Calls Try.prog 45 #[.agg #[.pointer P, .pointer Q], .int .i64 a, .int .i64 fl] w' (ErrAt x w')) :
    Calls Try.prog 18 #[.agg #[.pointer P, .pointer Q], .int .i64 a, .int .i64 fl, .int .i64 v] w fun e w' => e = .returned (.int .i64 x) ∧ Keeps w w' := by
  have HS := Lib.hid hs
  have HT := Lib.hid (fun w' v a => ostore_err P Q w' v a x hx)
  clear hs hx
  go_enter Try.func18, Try.ntmps18
  go_wp2_with fail
  refine named (fun W1 hW1 => ?_)
  have KW1 : Keeps w W1 := by rw [hW1]; exact ((Touch.refl _ w).alloc _)
  have BW1_S : BL W1 (w.heap.size) 34 [.pointer P, .pointer Q] := by rw [hW1]; exact (BL.new1 _ _ _ [.pointer P, .pointer Q] _ (by simp) rfl)
  have zW1 : w.heap.size + 1 ≤ W1.heap.size := by rw [hW1]; simp
  clear hW1
  have l2 := BW1_S.lt
  refine Calls.mono (HS.out _ KW1) ?_
  rintro e w3 ⟨⟨y, rfl⟩, kw3⟩
  have Kw3 := Keeps.trans KW1 kw3
  have Bw3_S := BL.keep BW1_S kw3
  have zw3 := kw3.size
  clear l2 BW1_S KW1 kw3
  have l4 := Bw3_S.lt
  have c5 : w3.cell? ⟨w.heap.size, 0, none⟩ = some (.pointer P) := Bw3_S.c 0 _ rfl
  have c6 : w3.cell? ⟨w.heap.size, 1, none⟩ = some (.pointer Q) := Bw3_S.c 1 _ rfl
  go_wp2_with fail
  refine Calls.mono (HT.out _ _ _) ?_
  rintro e w7 ⟨rfl, kw7⟩
  have Kw7 := Keeps.trans Kw3 kw7
  have Bw7_S := BL.keep Bw3_S kw7
  have zw7 := kw7.size
  clear l4 c5 c6 Bw3_S Kw3 kw7
  have l8 := Bw7_S.lt
  go_wp2_with fail
  go_returns
  exact ⟨rfl, Kw7⟩

theorem setnum_core (ba bw n : Nat) (f : Nat → Int) (bt : Nat) (A : Option Addr) (m cap : Nat) (C : Nat → Cl) (w : World) (h : St w ba bw n f bt A m cap C) (a fl v x : Int) (hs : ∀ w', Keeps w w' → Calls Try.prog 73 #[stV ba bt, .int .i64 a, .int .i64 fl] w' fun e w2 => e = .returned (.tuple #[.int .i64 x, .int .i64 0]) ∧ Keeps w' w2) (h0 : 0 ≤ x) (h1 : x < n) :
    Calls Try.prog 43 #[stV ba bt, .int .i64 a, .int .i64 fl, .int .i64 v] w fun e w' => e = .returned (.int .i64 0) ∧ St w' ba bw n (putF f x.toNat v) bt A m cap C ∧ Only bw w w' := by
  have hSt := Lib.hid h
  have HS := Lib.hid hs
  have HT := Lib.hid (fun w' (h : St w' ba bw n f bt A m cap C) => ostore_yes ba bw n f bt A m cap C w' h v x h0 h1)
  have hlt := h.ar.lt2
  clear h hs
  unfold stV at *
  go_enter Try.func43, Try.ntmps43
  go_wp2_with fail
  refine named (fun W1 hW1 => ?_)
  have KW1 : Keeps w W1 := by rw [hW1]; exact ((Touch.refl _ w).alloc _)
  have BW1_S : BL W1 (w.heap.size) 34 [.pointer (some ⟨ba, 0, none⟩), .pointer (some ⟨bt, 0, none⟩)] := by rw [hW1]; exact (BL.new1 _ _ _ [.pointer (some ⟨ba, 0, none⟩), .pointer (some ⟨bt, 0, none⟩)] _ (by simp) rfl)
  have zW1 : w.heap.size + 1 ≤ W1.heap.size := by rw [hW1]; simp
  clear hW1
  have l2 := BW1_S.lt
  refine Calls.mono (HS.out _ KW1) ?_
  rintro e w3 ⟨rfl, kw3⟩
  have Kw3 := Keeps.trans KW1 kw3
  have Bw3_S := BL.keep BW1_S kw3
  have zw3 := kw3.size
  clear l2 BW1_S KW1 kw3
  have l4 := Bw3_S.lt
  have c5 : w3.cell? ⟨w.heap.size, 0, none⟩ = some (.pointer (some ⟨ba, 0, none⟩)) := Bw3_S.c 0 _ rfl
  have c6 : w3.cell? ⟨w.heap.size, 1, none⟩ = some (.pointer (some ⟨bt, 0, none⟩)) := Bw3_S.c 1 _ rfl
  go_wp2_with fail
  refine Calls.mono (HT.out _ (hSt.out.keep Kw3)) ?_
  rintro e w9 ⟨rfl, s9, o9⟩
  go_wp2_with fail
  go_returns
  exact ⟨rfl, s9, (Touch.only Kw3).trans_ o9⟩

theorem setnum_err (P Q : Option Addr) (a fl v x : Int) (w : World) (hx : x ≠ 0) (hs : ∀ w', Keeps w w' → Calls Try.prog 73 #[.agg #[.pointer P, .pointer Q], .int .i64 a, .int .i64 fl] w' (ErrAt x w')) :
    Calls Try.prog 43 #[.agg #[.pointer P, .pointer Q], .int .i64 a, .int .i64 fl, .int .i64 v] w fun e w' => e = .returned (.int .i64 x) ∧ Keeps w w' := by
  have HS := Lib.hid hs
  have HT := Lib.hid (fun w' v a => ostore_err P Q w' v a x hx)
  clear hs hx
  go_enter Try.func43, Try.ntmps43
  go_wp2_with fail
  refine named (fun W1 hW1 => ?_)
  have KW1 : Keeps w W1 := by rw [hW1]; exact ((Touch.refl _ w).alloc _)
  have BW1_S : BL W1 (w.heap.size) 34 [.pointer P, .pointer Q] := by rw [hW1]; exact (BL.new1 _ _ _ [.pointer P, .pointer Q] _ (by simp) rfl)
  have zW1 : w.heap.size + 1 ≤ W1.heap.size := by rw [hW1]; simp
  clear hW1
  have l2 := BW1_S.lt
  refine Calls.mono (HS.out _ KW1) ?_
  rintro e w3 ⟨⟨y, rfl⟩, kw3⟩
  have Kw3 := Keeps.trans KW1 kw3
  have Bw3_S := BL.keep BW1_S kw3
  have zw3 := kw3.size
  clear l2 BW1_S KW1 kw3
  have l4 := Bw3_S.lt
  have c5 : w3.cell? ⟨w.heap.size, 0, none⟩ = some (.pointer P) := Bw3_S.c 0 _ rfl
  have c6 : w3.cell? ⟨w.heap.size, 1, none⟩ = some (.pointer Q) := Bw3_S.c 1 _ rfl
  go_wp2_with fail
  refine Calls.mono (HT.out _ _ _) ?_
  rintro e w7 ⟨rfl, kw7⟩
  have Kw7 := Keeps.trans Kw3 kw7
  have Bw7_S := BL.keep Bw3_S kw7
  have zw7 := kw7.size
  clear l4 c5 c6 Bw3_S Kw3 kw7
  have l8 := Bw7_S.lt
  go_wp2_with fail
  go_returns
  exact ⟨rfl, Kw7⟩

/-- The address of a reference, of a number. -/
def refAt (a fl : Int) : Int := a + 2 + fl
def numAt (p : Th × Int) (a fl : Int) : Int := a + 2 + p.1.refs + fl
theorem ref_any (ba bw n : Nat) (f : Nat → Int) (bt : Nat) (A : Option Addr) (m cap : Nat) (C : Nat → Cl) (w : World) (h : St w ba bw n f bt A m cap C) (a fl : Int) :
    Calls Try.prog 47 #[stV ba bt, .int .i64 a, .int .i64 fl] w fun e w' =>
      e = .returned (.tuple #[.int .i64 (if slE (objP (atT n f m C a)) (objP (atT n f m C a)).1.refs fl = 0 then f (refAt a fl).toNat else 0), .int .i64 (slE (objP (atT n f m C a)) (objP (atT n f m C a)).1.refs fl)]) ∧ Keeps w w' := by
  have hle := h.ar.le
  by_cases hE : slE (objP (atT n f m C a)) (objP (atT n f m C a)).1.refs fl = 0
  · rw [if_pos hE, hE]
    obtain ⟨h1, h2, h3⟩ := slE_zero.1 hE
    obtain ⟨k1, k2, k3, k4, k5, k6⟩ := obj_ok h.tb.ok h1
    refine ref_core _ _ a fl w (fun x y => x = refAt a fl ∧ y = 0) (fun w' k => ?_) _ _ (fun w' x y k hR => ?_)
    · refine (slot_yes _ _ a fl w' (objP (atT n f m C a)) (fun w2 k2 => object_any ba bw n f bt A m cap C w2 (h.keep (k.trans k2)) a) h1 h2 h3 ⟨by omega, by omega⟩ ⟨k2, k3⟩ ⟨k4, k5⟩).mono ?_
      rintro e w2 ⟨rfl, k2⟩
      exact ⟨⟨_, _, ⟨rfl, rfl⟩, rfl⟩, k2⟩
    · obtain ⟨rfl, rfl⟩ := hR
      exact oload_yes ba bw n f bt A m cap C w' (h.keep k) _ (by unfold refAt; omega) (by unfold refAt; omega)
  · rw [if_neg hE]
    refine ref_core _ _ a fl w (fun x y => y = slE (objP (atT n f m C a)) (objP (atT n f m C a)).1.refs fl) (fun w' k => ?_) _ _ (fun w' x y k hR => ?_)
    · refine (slot_bad ba bw n f bt A m cap C w' (h.keep k) a fl hE).mono ?_
      rintro e w2 ⟨⟨y, rfl⟩, k2⟩
      exact ⟨⟨_, _, rfl, rfl⟩, k2⟩
    · subst hR
      exact oload_err _ _ w' x _ hE
theorem setref_yes (ba bw n : Nat) (f : Nat → Int) (bt : Nat) (A : Option Addr) (m cap : Nat) (C : Nat → Cl) (w : World) (h : St w ba bw n f bt A m cap C) (a fl v : Int) (hE : slE (objP (atT n f m C a)) (objP (atT n f m C a)).1.refs fl = 0) :
    Calls Try.prog 18 #[stV ba bt, .int .i64 a, .int .i64 fl, .int .i64 v] w fun e w' => e = .returned (.int .i64 0) ∧ St w' ba bw n (putF f (refAt a fl).toNat v) bt A m cap C ∧ Only bw w w' := by
  have hle := h.ar.le
  obtain ⟨h1, h2, h3⟩ := slE_zero.1 hE
  obtain ⟨k1, k2, k3, k4, k5, k6⟩ := obj_ok h.tb.ok h1
  refine setref_core ba bw n f bt A m cap C w h a fl v (refAt a fl) (fun w' k => ?_) (by unfold refAt; omega) (by unfold refAt; omega)
  exact slot_yes _ _ a fl w' (objP (atT n f m C a)) (fun w2 k2 => object_any ba bw n f bt A m cap C w2 (h.keep (k.trans k2)) a) h1 h2 h3 ⟨by omega, by omega⟩ ⟨k2, k3⟩ ⟨k4, k5⟩
theorem setref_no (ba bw n : Nat) (f : Nat → Int) (bt : Nat) (A : Option Addr) (m cap : Nat) (C : Nat → Cl) (w : World) (h : St w ba bw n f bt A m cap C) (a fl v : Int) (hE : slE (objP (atT n f m C a)) (objP (atT n f m C a)).1.refs fl ≠ 0) :
    Calls Try.prog 18 #[stV ba bt, .int .i64 a, .int .i64 fl, .int .i64 v] w fun e w' => e = .returned (.int .i64 (slE (objP (atT n f m C a)) (objP (atT n f m C a)).1.refs fl)) ∧ Keeps w w' :=
  setref_err _ _ a fl v _ w hE (fun w' k => slot_bad ba bw n f bt A m cap C w' (h.keep k) a fl hE)
theorem setnum_yes (ba bw n : Nat) (f : Nat → Int) (bt : Nat) (A : Option Addr) (m cap : Nat) (C : Nat → Cl) (w : World) (h : St w ba bw n f bt A m cap C) (a fl v : Int) (hE : slE (objP (atT n f m C a)) (objP (atT n f m C a)).1.data fl = 0) :
    Calls Try.prog 43 #[stV ba bt, .int .i64 a, .int .i64 fl, .int .i64 v] w fun e w' => e = .returned (.int .i64 0) ∧ St w' ba bw n (putF f (numAt (objP (atT n f m C a)) a fl).toNat v) bt A m cap C ∧ Only bw w w' := by
  have hle := h.ar.le
  obtain ⟨h1, h2, h3⟩ := slE_zero.1 hE
  obtain ⟨k1, k2, k3, k4, k5, k6⟩ := obj_ok h.tb.ok h1
  refine setnum_core ba bw n f bt A m cap C w h a fl v (numAt (objP (atT n f m C a)) a fl) (fun w' k => ?_) (by unfold numAt; omega) (by unfold numAt; omega)
  exact cell_yes _ _ a fl w' (objP (atT n f m C a)) (fun w2 k2 => object_any ba bw n f bt A m cap C w2 (h.keep (k.trans k2)) a) h1 h2 h3 ⟨by omega, by omega⟩ ⟨k2, k3⟩ ⟨k4, k5⟩
theorem setnum_no (ba bw n : Nat) (f : Nat → Int) (bt : Nat) (A : Option Addr) (m cap : Nat) (C : Nat → Cl) (w : World) (h : St w ba bw n f bt A m cap C) (a fl v : Int) (hE : slE (objP (atT n f m C a)) (objP (atT n f m C a)).1.data fl ≠ 0) :
    Calls Try.prog 43 #[stV ba bt, .int .i64 a, .int .i64 fl, .int .i64 v] w fun e w' => e = .returned (.int .i64 (slE (objP (atT n f m C a)) (objP (atT n f m C a)).1.data fl)) ∧ Keeps w w' :=
  setnum_err _ _ a fl v _ w hE (fun w' k => cell_bad ba bw n f bt A m cap C w' (h.keep k) a fl hE)

end Go.Proofs.Ytabfbgkablbeeaa
