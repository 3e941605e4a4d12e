/- Layer 6, object: at. -/
import Derived.Test.YtabfbgkablbeeaaG07
set_option linter.all false

namespace Go.Proofs.Ytabfbgkablbeeaa
open Go.RowKit

theorem of_ok (W : Int) (w : World) (h : (rawH W).ok) : Calls Try.prog 81 #[.int .i64 W] w fun r w' => r = .returned (.tuple #[hdV (rawH W), .int .i64 0]) ∧ Keeps w w' := by
  have := of_any W w
  rw [if_pos h, if_pos h] at this
  exact this
theorem of_bad (W : Int) (w : World) (h : ¬ (rawH W).ok) : Calls Try.prog 81 #[.int .i64 W] w fun r w' => r = .returned (.tuple #[.agg #[.int .i64 0, .int .i64 0, .int .i64 0, .bool false, .bool false, .bool false], .int .i64 12]) ∧ Keeps w w' := by
  have := of_any W w
  rw [if_neg h, if_neg h] at this
  exact this
theorem load_at (ba bw n : Nat) (f : Nat → Int) (w : World) (h : Ar w ba bw n f) (a : Int) (h0 : 0 ≤ a) (h1 : a < n) :
    Calls Try.prog 80 #[.pointer (some ⟨ba, 0, none⟩), .int .i64 a] w fun e w' => e = .returned (.tuple #[.int .i64 (f a.toNat), .int .i64 0]) ∧ w = w' := by
  obtain ⟨k, rfl⟩ := Int.eq_ofNat_of_zero_le h0
  exact load_yes ba bw n f w h k (by omega)
theorem zero_th (w : World) : (zeroValue 101).run Try.prog w = .ok (.agg #[.int .i64 0, .int .i64 0, .int .i64 0, .bool false, .bool false, .bool false, .int .i64 0, .int .i64 0, .int .i64 0]) w := by kernel_rfl

/-- What stands at an address, and the error. -/
def atT (n : Nat) (f : Nat → Int) (m : Nat) (C : Nat → Cl) (a : Int) : Th × Int :=
  if thB n a 1 = false then (th0, 2) else
  if ¬ (rawH (f a.toNat)).ok then (th0, 12) else
  if (rawH (f a.toNat)).cls = 0 ∧ (rawH (f a.toNat)).mark = true then (⟨rawH (f a.toNat), 0, 0, 1⟩, 0) else
  if ¬ (a + 1 < n) then (th0, 12) else
  if (rawH (f a.toNat)).cls = 0 then
    if f (a + 1).toNat < 2 ∨ thB n a (f (a + 1).toNat) = false then (th0, 12) else (⟨rawH (f a.toNat), 0, 0, f (a + 1).toNat⟩, 0)
  else if shE C m (rawH (f a.toNat)).cls (f (a + 1).toNat) ≠ 0 then (th0, 12)
  else if thB n a (2 + shR C m (rawH (f a.toNat)).cls (f (a + 1).toNat) + shD C m (rawH (f a.toNat)).cls (f (a + 1).toNat)) = false then (th0, 12)
  else (⟨rawH (f a.toNat), shR C m (rawH (f a.toNat)).cls (f (a + 1).toNat), shD C m (rawH (f a.toNat)).cls (f (a + 1).toNat), 2 + shR C m (rawH (f a.toNat)).cls (f (a + 1).toNat) + shD C m (rawH (f a.toNat)).cls (f (a + 1).toNat)⟩, 0)

section
variable {n m : Nat} {f : Nat → Int} {C : Nat → Cl} {a : Int} {hd : Hd}
theorem atT_one (h1 : thB n a 1 = true) (h2 : (rawH (f a.toNat)).ok) (hh : rawH (f a.toNat) = hd) (hc : hd.cls = 0) (hm : hd.mark = true) : atT n f m C a = (⟨hd, 0, 0, 1⟩, 0) := by
  unfold atT
  rw [if_neg (by rw [h1]; decide), if_neg (fun hn => hn h2), hh, if_pos ⟨hc, hm⟩]
theorem atT_end (h1 : thB n a 1 = true) (h2 : (rawH (f a.toNat)).ok) (hh : rawH (f a.toNat) = hd) (hcm : ¬ (hd.cls = 0 ∧ hd.mark = true)) (h4 : ¬ (a + 1 < n)) : atT n f m C a = (th0, 12) := by
  unfold atT
  rw [if_neg (by rw [h1]; decide), if_neg (fun hn => hn h2), hh, if_neg hcm, if_pos h4]
theorem atT_gap0 (h1 : thB n a 1 = true) (h2 : (rawH (f a.toNat)).ok) (hh : rawH (f a.toNat) = hd) (hc : hd.cls = 0) (hm : hd.mark = false) (h4 : a + 1 < n) {x : Int} (hx : f (a + 1).toNat = x) (h5 : x < 2 ∨ thB n a x = false) : atT n f m C a = (th0, 12) := by
  unfold atT
  rw [if_neg (by rw [h1]; decide), if_neg (fun hn => hn h2), hh, if_neg (fun h => by rw [hm] at h; cases h.2), if_neg (fun hn => hn h4), if_pos hc, hx, if_pos h5]
theorem atT_gap (h1 : thB n a 1 = true) (h2 : (rawH (f a.toNat)).ok) (hh : rawH (f a.toNat) = hd) (hc : hd.cls = 0) (hm : hd.mark = false) (h4 : a + 1 < n) {x : Int} (hx : f (a + 1).toNat = x) (h5 : ¬ x < 2) (h6 : thB n a x = true) : atT n f m C a = (⟨hd, 0, 0, x⟩, 0) := by
  unfold atT
  rw [if_neg (by rw [h1]; decide), if_neg (fun hn => hn h2), hh, if_neg (fun h => by rw [hm] at h; cases h.2), if_neg (fun hn => hn h4), if_pos hc, hx, if_neg (fun h => h.elim h5 (fun h => by rw [h6] at h; cases h))]
theorem atT_shape (h1 : thB n a 1 = true) (h2 : (rawH (f a.toNat)).ok) (hh : rawH (f a.toNat) = hd) (hc : ¬ hd.cls = 0) (h4 : a + 1 < n) {x : Int} (hx : f (a + 1).toNat = x) (h5 : ¬ shE C m hd.cls x = 0) : atT n f m C a = (th0, 12) := by
  unfold atT
  rw [if_neg (by rw [h1]; decide), if_neg (fun hn => hn h2), hh, if_neg (fun h => hc h.1), if_neg (fun hn => hn h4), if_neg hc, hx, if_pos h5]
theorem atT_far (h1 : thB n a 1 = true) (h2 : (rawH (f a.toNat)).ok) (hh : rawH (f a.toNat) = hd) (hc : ¬ hd.cls = 0) (h4 : a + 1 < n) {x r d : Int} (hx : f (a + 1).toNat = x) (h5 : shE C m hd.cls x = 0)
    (hr : shR C m hd.cls x = r) (hd' : shD C m hd.cls x = d) (h6 : thB n a (2 + r + d) = false) : atT n f m C a = (th0, 12) := by
  unfold atT
  rw [if_neg (by rw [h1]; decide), if_neg (fun hn => hn h2), hh, if_neg (fun h => hc h.1), if_neg (fun hn => hn h4), if_neg hc, hx, if_neg (fun hn => hn h5), hr, hd', if_pos h6]
theorem atT_obj (h1 : thB n a 1 = true) (h2 : (rawH (f a.toNat)).ok) (hh : rawH (f a.toNat) = hd) (hc : ¬ hd.cls = 0) (h4 : a + 1 < n) {x r d : Int} (hx : f (a + 1).toNat = x) (h5 : shE C m hd.cls x = 0)
    (hr : shR C m hd.cls x = r) (hd' : shD C m hd.cls x = d) (h6 : thB n a (2 + r + d) = true) : atT n f m C a = (⟨hd, r, d, 2 + r + d⟩, 0) := by
  unfold atT
  rw [if_neg (by rw [h1]; decide), if_neg (fun hn => hn h2), hh, if_neg (fun h => hc h.1), if_neg (fun hn => hn h4), if_neg hc, hx, if_neg (fun hn => hn h5), hr, hd', if_neg (by rw [h6]; decide)]
end
theorem is_at (c ag fw : Int) (mk fi dn : Bool) (r d k : Int) (w : World) {B : Bool} (hB : (c != 0) = B) :
    Calls Try.prog 64 #[.agg #[.int .i64 c, .int .i64 ag, .int .i64 fw, .bool mk, .bool fi, .bool dn, .int .i64 r, .int .i64 d, .int .i64 k]] w fun e w' => e = .returned (.bool B) ∧ Keeps w w' := by
  subst hB
  exact is_any ⟨⟨c, ag, fw, mk, fi, dn⟩, r, d, k⟩ w
theorem load_not (ba bw n : Nat) (f : Nat → Int) (w : World) (h : Ar w ba bw n f) (a : Int) (h0 : 0 ≤ a ∧ a ≤ 5000) (h1 : ¬ a < n) :
    Calls Try.prog 80 #[.pointer (some ⟨ba, 0, none⟩), .int .i64 a] w fun e w' => e = .returned (.tuple #[.int .i64 0, .int .i64 2]) ∧ w = w' :=
  load_no ba bw n f w h a (by omega) (by omega)

set_option maxHeartbeats 4000000 in
set_option maxRecDepth 100000 in
theorem at_any (ba bw n : Nat) (f : Nat → Int) (bt : Nat) (A : Option Addr) (m cap : Nat) (C : Nat → Cl) (w : World) (h : St w ba bw n f bt A m cap C) (a : Int) :
    Calls Try.prog 63 #[stV ba bt, .int .i64 a] w fun e w' => e = .returned (.tuple #[thV (atT n f m C a).1, .int .i64 (atT n f m C a).2]) ∧ Keeps w w' := by
  have hz := zero_th
  have hz2 := zero_hd
  have hle := h.ar.le
  have hSt := Lib.hid h
  have HT := Lib.hid (fun (a : Int) w' (h : St w' ba bw n f bt A m cap C) (k : Int) => there_any ba bw n f bt w' h.ar a k)
  have HLd := Lib.hid (fun w' (h : Ar w' ba bw n f) a h0 h1 => load_at ba bw n f w' h a h0 h1)
  have HLn := Lib.hid (fun w' (h : Ar w' ba bw n f) a h0 h1 => load_not ba bw n f w' h a h0 h1)
  have HI0 := Lib.hid (fun c ag fw mk fi dn r d k w {B : Bool} (hB : (c != 0) = B) => is_at c ag fw mk fi dn r d k w hB)
  have HSh := Lib.hid (fun w' (h : St w' ba bw n f bt A m cap C) (k x : Int) => shape_any bt A m cap C w' h.tb k x)
  have HBd := Lib.hid (fun (k x : Int) (hx : shE C m k x = 0) => sh_bd h.tb.ok hx)
  have HA2 := Lib.hid (fun (h : thB n a 1 = false) => show atT n f m C a = (th0, 2) by unfold atT; rw [if_pos h])
  have HA3 := Lib.hid (fun (h : thB n a 1 = true) (h2 : ¬ (rawH (f a.toNat)).ok) => show atT n f m C a = (th0, 12) by unfold atT; rw [if_neg (by rw [h]; decide), if_pos h2])
  clear h
  unfold stV at *
  go_enter Try.func63, Try.ntmps63
  go_wp2_with fail
  refine named (fun W1 hW1 => ?_)
  have KW1 : Keeps w W1 := by rw [hW1]; exact (((Touch.refl _ w).alloc _).alloc _)
  have BW1_S : BL W1 (w.heap.size) 34 [.pointer (some ⟨ba, 0, none⟩), .pointer (some ⟨bt, 0, none⟩)] := by rw [hW1]; exact (BL.alloc (BL.new1 _ _ _ [.pointer (some ⟨ba, 0, none⟩), .pointer (some ⟨bt, 0, none⟩)] _ (by simp) rfl) _)
  have BW1_R : BL W1 (w.heap.size + 1) 101 [.int .i64 0, .int .i64 0, .int .i64 0, .bool false, .bool false, .bool false, .int .i64 0, .int .i64 0, .int .i64 0] := by rw [hW1]; exact (BL.new1 _ _ _ [.int .i64 0, .int .i64 0, .int .i64 0, .bool false, .bool false, .bool false, .int .i64 0, .int .i64 0, .int .i64 0] _ (by simp) rfl)
  have zW1 : w.heap.size + 2 ≤ W1.heap.size := by rw [hW1]; simp
  clear hW1
  have l2 := BW1_S.lt
  have l3 := BW1_R.lt
  refine Calls.mono ((HT.out _ _ (hSt.out.keep KW1) 1)) ?_
  rintro e w4 ⟨rfl, kw4⟩
  have Kw4 := Keeps.trans KW1 kw4
  have Bw4_S := BL.keep BW1_S kw4
  have Bw4_R := BL.keep BW1_R kw4
  have zw4 := kw4.size
  clear l2 l3 BW1_S BW1_R KW1 kw4
  have l5 := Bw4_S.lt
  have l6 := Bw4_R.lt
  cases hb1 : thB n a 1 with
  | false =>
    have HA := Lib.hid (HA2.out hb1)
    clear hb1
    clear l5 l6
    have l7 := Bw4_S.lt
    have l8 := Bw4_R.lt
    go_wp2_with (first | (refine store_bl ?_ 101 (.tmp 4) (.tmp 16) ?_ Bw4_R ?_ [.int .i64 0, .int .i64 0, .int .i64 0, .bool false, .bool false, .bool false, .int .i64 0, .int .i64 0, .int .i64 0] ?_ sz_th rfl rfl ?_; rfl; rfl; rfl; rfl; intro W9 BW9_R kW9; have KW9 := Keeps.new Kw4 kW9 (by show w.heap.size ≤ w.heap.size + 1; omega); have zW9 : w4.heap.size + 0 ≤ W9.heap.size := Nat.le_trans (by simp) kW9.size; clear l7 l8 Bw4_S Bw4_R Kw4 kW9; have l10 := BW9_R.lt))
    have HE := BW9_R
    have s0 := HE.c 0 (.int .i64 0) rfl
    have s1 := HE.c 1 (.int .i64 0) rfl
    have s2 := HE.c 2 (.int .i64 0) rfl
    have s3 := HE.c 3 (.bool false) rfl
    have s4 := HE.c 4 (.bool false) rfl
    have s5 := HE.c 5 (.bool false) rfl
    have s6 := HE.c 6 (.int .i64 0) rfl
    have s7 := HE.c 7 (.int .i64 0) rfl
    have s8 := HE.c 8 (.int .i64 0) rfl
    refine bodyPost_ret (v := .tuple #[.agg #[.int .i64 0, .int .i64 0, .int .i64 0, .bool false, .bool false, .bool false, .int .i64 0, .int .i64 0, .int .i64 0], .int .i64 2]) (by simp [results, Try.results63, go_sem, s0, s1, s2, s3, s4, s5, s6, s7, s8]) rfl ⟨?_, KW9⟩
    rw [HA.out]; rfl
  | true =>
    obtain ⟨b1, _, b2, _⟩ := thB_true.1 hb1
    have HT1 := Lib.hid hb1
    clear hb1
    clear l5 l6
    have l11 := Bw4_S.lt
    have l12 := Bw4_R.lt
    have c13 : w4.cell? ⟨w.heap.size, 0, none⟩ = some (.pointer (some ⟨ba, 0, none⟩)) := Bw4_S.c 0 _ rfl
    have c14 : w4.cell? ⟨w.heap.size, 1, none⟩ = some (.pointer (some ⟨bt, 0, none⟩)) := Bw4_S.c 1 _ rfl
    go_wp2_with fail
    refine Calls.mono (HLd.out _ (hSt.out.keep Kw4).ar a (by omega) (by omega)) ?_
    rintro e wz ⟨rfl, rfl⟩
    go_wp2_with fail
    cases hok : decide (rawH (f a.toNat)).ok with
    | false =>
      have hok1 := of_decide_eq_false hok
      have HA := Lib.hid (HA3.out HT1.out hok1)
      have HO := Lib.hid (fun w => of_bad (f a.toNat) w hok1)
      clear hok hok1
      refine Calls.mono (HO.out _) ?_
      rintro e w15 ⟨rfl, kw15⟩
      have Kw15 := Keeps.trans Kw4 kw15
      have Bw15_S := BL.keep Bw4_S kw15
      have Bw15_R := BL.keep Bw4_R kw15
      have zw15 := kw15.size
      clear l11 l12 c13 c14 Bw4_S Bw4_R Kw4 kw15
      have l16 := Bw15_S.lt
      have l17 := Bw15_R.lt
      go_wp2_with (first | (refine store_bl ?_ 101 (.tmp 4) (.tmp 31) ?_ (BL.alloc Bw15_R _) ?_ [.int .i64 0, .int .i64 0, .int .i64 0, .bool false, .bool false, .bool false, .int .i64 0, .int .i64 0, .int .i64 0] ?_ sz_th rfl rfl ?_; rfl; rfl; rfl; rfl; intro W18 BW18_R kW18; have KW18 := Keeps.new (Kw15.alloc _) kW18 (by show w.heap.size ≤ w.heap.size + 1; omega); have zW18 : w15.heap.size + 1 ≤ W18.heap.size := Nat.le_trans (by simp) kW18.size; clear l16 l17 Bw15_S Bw15_R Kw15 kW18; have l19 := BW18_R.lt))
      have HE := BW18_R
      have s0 := HE.c 0 (.int .i64 0) rfl
      have s1 := HE.c 1 (.int .i64 0) rfl
      have s2 := HE.c 2 (.int .i64 0) rfl
      have s3 := HE.c 3 (.bool false) rfl
      have s4 := HE.c 4 (.bool false) rfl
      have s5 := HE.c 5 (.bool false) rfl
      have s6 := HE.c 6 (.int .i64 0) rfl
      have s7 := HE.c 7 (.int .i64 0) rfl
      have s8 := HE.c 8 (.int .i64 0) rfl
      refine bodyPost_ret (v := .tuple #[.agg #[.int .i64 0, .int .i64 0, .int .i64 0, .bool false, .bool false, .bool false, .int .i64 0, .int .i64 0, .int .i64 0], .int .i64 12]) (by simp [results, Try.results63, go_sem, s0, s1, s2, s3, s4, s5, s6, s7, s8]) rfl ⟨?_, KW18⟩
      rw [HA.out]; rfl
    | true =>
      have HOK := Lib.hid (of_decide_eq_true hok)
      have HO := Lib.hid (fun w => of_ok (f a.toNat) w (of_decide_eq_true hok))
      clear hok
      generalize hh : rawH (f a.toNat) = hd at HO
      obtain ⟨c, ag, fw, mk, fi, dn⟩ := hd
      have HH := Lib.hid hh
      clear hh
      unfold hdV at HO
      dsimp only at HO
      refine Calls.mono (HO.out _) ?_
      rintro e w20 ⟨rfl, kw20⟩
      have Kw20 := Keeps.trans Kw4 kw20
      have Bw20_S := BL.keep Bw4_S kw20
      have Bw20_R := BL.keep Bw4_R kw20
      have zw20 := kw20.size
      clear l11 l12 c13 c14 Bw4_S Bw4_R Kw4 kw20
      have l21 := Bw20_S.lt
      have l22 := Bw20_R.lt
      have c23 : w20.cell? ⟨w.heap.size, 0, none⟩ = some (.pointer (some ⟨ba, 0, none⟩)) := Bw20_S.c 0 _ rfl
      have c24 : w20.cell? ⟨w.heap.size, 1, none⟩ = some (.pointer (some ⟨bt, 0, none⟩)) := Bw20_S.c 1 _ rfl
      by_cases hc : c = 0
      ·
        subst hc
        cases mk with
        | true =>
          have HA := Lib.hid (atT_one (m := m) (C := C) HT1.out HOK.out HH.out rfl rfl)
          go_wp2_with (first | (refine store_bl ?_ 101 (.tmp 4) (.tmp 41) ?_ (BL.alloc (BL.alloc Bw20_R _) _) ?_ [.int .i64 0, .int .i64 ag, .int .i64 fw, .bool true, .bool fi, .bool dn, .int .i64 0, .int .i64 0, .int .i64 1] ?_ sz_th rfl rfl ?_; rfl; rfl; rfl; rfl; intro W25 BW25_R kW25; have KW25 := Keeps.new ((Kw20.alloc _).alloc _) kW25 (by show w.heap.size ≤ w.heap.size + 1; omega); have zW25 : w20.heap.size + 2 ≤ W25.heap.size := Nat.le_trans (by simp) kW25.size; clear l21 l22 c23 c24 Bw20_S Bw20_R Kw20 kW25; have l26 := BW25_R.lt))
          have HE := BW25_R
          have s0 := HE.c 0 (.int .i64 0) rfl
          have s1 := HE.c 1 (.int .i64 ag) rfl
          have s2 := HE.c 2 (.int .i64 fw) rfl
          have s3 := HE.c 3 (.bool true) rfl
          have s4 := HE.c 4 (.bool fi) rfl
          have s5 := HE.c 5 (.bool dn) rfl
          have s6 := HE.c 6 (.int .i64 0) rfl
          have s7 := HE.c 7 (.int .i64 0) rfl
          have s8 := HE.c 8 (.int .i64 1) rfl
          refine bodyPost_ret (v := .tuple #[.agg #[.int .i64 0, .int .i64 ag, .int .i64 fw, .bool true, .bool fi, .bool dn, .int .i64 0, .int .i64 0, .int .i64 1], .int .i64 0]) (by simp [results, Try.results63, go_sem, s0, s1, s2, s3, s4, s5, s6, s7, s8]) rfl ⟨?_, KW25⟩
          rw [HA.out]; rfl
        | false =>
          by_cases h4 : a + 1 < n
          ·
            go_wp2_with fail
            refine named (fun W27 hW27 => ?_)
            have KW27 : Keeps w W27 := by rw [hW27]; exact ((Kw20.alloc _).alloc _)
            have BW27_S : BL W27 (w.heap.size) 34 [.pointer (some ⟨ba, 0, none⟩), .pointer (some ⟨bt, 0, none⟩)] := by rw [hW27]; exact (BL.alloc (BL.alloc Bw20_S _) _)
            have BW27_R : BL W27 (w.heap.size + 1) 101 [.int .i64 0, .int .i64 0, .int .i64 0, .bool false, .bool false, .bool false, .int .i64 0, .int .i64 0, .int .i64 0] := by rw [hW27]; exact (BL.alloc (BL.alloc Bw20_R _) _)
            have BW27_H : BL W27 (w20.heap.size) 96 [.int .i64 0, .int .i64 ag, .int .i64 fw, .bool false, .bool fi, .bool dn] := by rw [hW27]; exact (BL.alloc (BL.new1 _ _ _ [.int .i64 0, .int .i64 ag, .int .i64 fw, .bool false, .bool fi, .bool dn] _ (by simp) rfl) _)
            have BW27_T : BL W27 (w20.heap.size + 1) 101 [.int .i64 0, .int .i64 ag, .int .i64 fw, .bool false, .bool fi, .bool dn, .int .i64 0, .int .i64 0, .int .i64 1] := by rw [hW27]; exact (BL.new1 _ _ _ [.int .i64 0, .int .i64 ag, .int .i64 fw, .bool false, .bool fi, .bool dn, .int .i64 0, .int .i64 0, .int .i64 1] _ (by simp) rfl)
            have zW27 : w20.heap.size + 2 ≤ W27.heap.size := by rw [hW27]; simp
            clear l21 l22 c23 c24 Bw20_S Bw20_R Kw20 hW27
            have l28 := BW27_S.lt
            have l29 := BW27_R.lt
            have l30 := BW27_H.lt
            have l31 := BW27_T.lt
            have c32 : W27.cell? ⟨w.heap.size, 0, none⟩ = some (.pointer (some ⟨ba, 0, none⟩)) := BW27_S.c 0 _ rfl
            have c33 : W27.cell? ⟨w.heap.size, 1, none⟩ = some (.pointer (some ⟨bt, 0, none⟩)) := BW27_S.c 1 _ rfl
            refine Calls.mono (HLd.out _ (hSt.out.keep KW27).ar (a + 1) (by omega) (by omega)) ?_
            rintro e wz ⟨rfl, rfl⟩
            generalize hx : f (a + 1).toNat = x
            have HX := Lib.hid hx
            clear hx
            clear l28 l29 l30 l31 c32 c33
            have l34 := BW27_S.lt
            have l35 := BW27_R.lt
            have l36 := BW27_H.lt
            have l37 := BW27_T.lt
            have c38 : W27.cell? ⟨w.heap.size, 0, none⟩ = some (.pointer (some ⟨ba, 0, none⟩)) := BW27_S.c 0 _ rfl
            have c39 : W27.cell? ⟨w.heap.size, 1, none⟩ = some (.pointer (some ⟨bt, 0, none⟩)) := BW27_S.c 1 _ rfl
            have c40 : W27.cell? ⟨w20.heap.size, 0, none⟩ = some (.int .i64 0) := BW27_H.c 0 _ rfl
            have c41 : W27.cell? ⟨w20.heap.size, 1, none⟩ = some (.int .i64 ag) := BW27_H.c 1 _ rfl
            have c42 : W27.cell? ⟨w20.heap.size, 2, none⟩ = some (.int .i64 fw) := BW27_H.c 2 _ rfl
            have c43 : W27.cell? ⟨w20.heap.size, 3, none⟩ = some (.bool false) := BW27_H.c 3 _ rfl
            have c44 : W27.cell? ⟨w20.heap.size, 4, none⟩ = some (.bool fi) := BW27_H.c 4 _ rfl
            have c45 : W27.cell? ⟨w20.heap.size, 5, none⟩ = some (.bool dn) := BW27_H.c 5 _ rfl
            have c46 : W27.cell? ⟨w20.heap.size + 1, 0, none⟩ = some (.int .i64 0) := BW27_T.c 0 _ rfl
            have c47 : W27.cell? ⟨w20.heap.size + 1, 1, none⟩ = some (.int .i64 ag) := BW27_T.c 1 _ rfl
            have c48 : W27.cell? ⟨w20.heap.size + 1, 2, none⟩ = some (.int .i64 fw) := BW27_T.c 2 _ rfl
            have c49 : W27.cell? ⟨w20.heap.size + 1, 3, none⟩ = some (.bool false) := BW27_T.c 3 _ rfl
            have c50 : W27.cell? ⟨w20.heap.size + 1, 4, none⟩ = some (.bool fi) := BW27_T.c 4 _ rfl
            have c51 : W27.cell? ⟨w20.heap.size + 1, 5, none⟩ = some (.bool dn) := BW27_T.c 5 _ rfl
            have c52 : W27.cell? ⟨w20.heap.size + 1, 6, none⟩ = some (.int .i64 0) := BW27_T.c 6 _ rfl
            have c53 : W27.cell? ⟨w20.heap.size + 1, 7, none⟩ = some (.int .i64 0) := BW27_T.c 7 _ rfl
            have c54 : W27.cell? ⟨w20.heap.size + 1, 8, none⟩ = some (.int .i64 1) := BW27_T.c 8 _ rfl
            go_wp2_with fail
            refine Calls.mono (HI0.out _ _ _ _ _ _ _ _ _ _ (B := false) rfl) ?_
            rintro e w55 ⟨rfl, kw55⟩
            have Kw55 := Keeps.trans KW27 kw55
            have Bw55_S := BL.keep BW27_S kw55
            have Bw55_R := BL.keep BW27_R kw55
            have Bw55_H := BL.keep BW27_H kw55
            have Bw55_T := BL.keep BW27_T kw55
            have zw55 := kw55.size
            clear l34 l35 l36 l37 c38 c39 c40 c41 c42 c43 c44 c45 c46 c47 c48 c49 c50 c51 c52 c53 c54 BW27_S BW27_R BW27_H BW27_T KW27 kw55
            have l56 := Bw55_S.lt
            have l57 := Bw55_R.lt
            have l58 := Bw55_H.lt
            have l59 := Bw55_T.lt
            have c60 : w55.cell? ⟨w.heap.size, 0, none⟩ = some (.pointer (some ⟨ba, 0, none⟩)) := Bw55_S.c 0 _ rfl
            have c61 : w55.cell? ⟨w.heap.size, 1, none⟩ = some (.pointer (some ⟨bt, 0, none⟩)) := Bw55_S.c 1 _ rfl
            by_cases h5 : x < 2
            ·
              have HA := Lib.hid (atT_gap0 (m := m) (C := C) HT1.out HOK.out HH.out rfl rfl h4 HX.out (.inl h5))
              go_wp2_with (first | (refine store_bl ?_ 101 (.tmp 4) (.tmp 86) ?_ Bw55_R ?_ [.int .i64 0, .int .i64 0, .int .i64 0, .bool false, .bool false, .bool false, .int .i64 0, .int .i64 0, .int .i64 0] ?_ sz_th rfl rfl ?_; rfl; rfl; rfl; rfl; intro W62 BW62_R kW62; have KW62 := Keeps.new Kw55 kW62 (by show w.heap.size ≤ w.heap.size + 1; omega); have zW62 : w55.heap.size + 0 ≤ W62.heap.size := Nat.le_trans (by simp) kW62.size; clear l56 l57 l58 l59 c60 c61 Bw55_S Bw55_R Bw55_H Bw55_T Kw55 kW62; have l63 := BW62_R.lt))
              have HE := BW62_R
              have s0 := HE.c 0 (.int .i64 0) rfl
              have s1 := HE.c 1 (.int .i64 0) rfl
              have s2 := HE.c 2 (.int .i64 0) rfl
              have s3 := HE.c 3 (.bool false) rfl
              have s4 := HE.c 4 (.bool false) rfl
              have s5 := HE.c 5 (.bool false) rfl
              have s6 := HE.c 6 (.int .i64 0) rfl
              have s7 := HE.c 7 (.int .i64 0) rfl
              have s8 := HE.c 8 (.int .i64 0) rfl
              refine bodyPost_ret (v := .tuple #[.agg #[.int .i64 0, .int .i64 0, .int .i64 0, .bool false, .bool false, .bool false, .int .i64 0, .int .i64 0, .int .i64 0], .int .i64 12]) (by simp [results, Try.results63, go_sem, s0, s1, s2, s3, s4, s5, s6, s7, s8]) rfl ⟨?_, KW62⟩
              rw [HA.out]; rfl
            ·
              go_wp2_with fail
              refine Calls.mono (HT.out _ _ (hSt.out.keep Kw55) x) ?_
              rintro e w64 ⟨rfl, kw64⟩
              have Kw64 := Keeps.trans Kw55 kw64
              have Bw64_S := BL.keep Bw55_S kw64
              have Bw64_R := BL.keep Bw55_R kw64
              have Bw64_H := BL.keep Bw55_H kw64
              have Bw64_T := BL.keep Bw55_T kw64
              have zw64 := kw64.size
              clear l56 l57 l58 l59 c60 c61 Bw55_S Bw55_R Bw55_H Bw55_T Kw55 kw64
              have l65 := Bw64_S.lt
              have l66 := Bw64_R.lt
              have l67 := Bw64_H.lt
              have l68 := Bw64_T.lt
              cases h6 : thB n a x with
              | false =>
                have HA := Lib.hid (atT_gap0 (m := m) (C := C) HT1.out HOK.out HH.out rfl rfl h4 HX.out (.inr h6))
                clear h6
                go_wp2_with (first | (refine store_bl ?_ 101 (.tmp 4) (.tmp 86) ?_ Bw64_R ?_ [.int .i64 0, .int .i64 0, .int .i64 0, .bool false, .bool false, .bool false, .int .i64 0, .int .i64 0, .int .i64 0] ?_ sz_th rfl rfl ?_; rfl; rfl; rfl; rfl; intro W69 BW69_R kW69; have KW69 := Keeps.new Kw64 kW69 (by show w.heap.size ≤ w.heap.size + 1; omega); have zW69 : w64.heap.size + 0 ≤ W69.heap.size := Nat.le_trans (by simp) kW69.size; clear l65 l66 l67 l68 Bw64_S Bw64_R Bw64_H Bw64_T Kw64 kW69; have l70 := BW69_R.lt))
                have HE := BW69_R
                have s0 := HE.c 0 (.int .i64 0) rfl
                have s1 := HE.c 1 (.int .i64 0) rfl
                have s2 := HE.c 2 (.int .i64 0) rfl
                have s3 := HE.c 3 (.bool false) rfl
                have s4 := HE.c 4 (.bool false) rfl
                have s5 := HE.c 5 (.bool false) rfl
                have s6 := HE.c 6 (.int .i64 0) rfl
                have s7 := HE.c 7 (.int .i64 0) rfl
                have s8 := HE.c 8 (.int .i64 0) rfl
                refine bodyPost_ret (v := .tuple #[.agg #[.int .i64 0, .int .i64 0, .int .i64 0, .bool false, .bool false, .bool false, .int .i64 0, .int .i64 0, .int .i64 0], .int .i64 12]) (by simp [results, Try.results63, go_sem, s0, s1, s2, s3, s4, s5, s6, s7, s8]) rfl ⟨?_, KW69⟩
                rw [HA.out]; rfl
              | true =>
                have HA := Lib.hid (atT_gap (m := m) (C := C) HT1.out HOK.out HH.out rfl rfl h4 HX.out (by omega) h6)
                clear h6
                clear l65 l66 l67 l68
                have l71 := Bw64_S.lt
                have l72 := Bw64_R.lt
                have l73 := Bw64_H.lt
                have l74 := Bw64_T.lt
                have c75 : w64.cell? ⟨w20.heap.size + 1, 0, none⟩ = some (.int .i64 0) := Bw64_T.c 0 _ rfl
                have c76 : w64.cell? ⟨w20.heap.size + 1, 1, none⟩ = some (.int .i64 ag) := Bw64_T.c 1 _ rfl
                have c77 : w64.cell? ⟨w20.heap.size + 1, 2, none⟩ = some (.int .i64 fw) := Bw64_T.c 2 _ rfl
                have c78 : w64.cell? ⟨w20.heap.size + 1, 3, none⟩ = some (.bool false) := Bw64_T.c 3 _ rfl
                have c79 : w64.cell? ⟨w20.heap.size + 1, 4, none⟩ = some (.bool fi) := Bw64_T.c 4 _ rfl
                have c80 : w64.cell? ⟨w20.heap.size + 1, 5, none⟩ = some (.bool dn) := Bw64_T.c 5 _ rfl
                have c81 : w64.cell? ⟨w20.heap.size + 1, 6, none⟩ = some (.int .i64 0) := Bw64_T.c 6 _ rfl
                have c82 : w64.cell? ⟨w20.heap.size + 1, 7, none⟩ = some (.int .i64 0) := Bw64_T.c 7 _ rfl
                have c83 : w64.cell? ⟨w20.heap.size + 1, 8, none⟩ = some (.int .i64 1) := Bw64_T.c 8 _ rfl
                have f84 := Bw64_T.fz 0
                have f85 := Bw64_T.fz 1
                have f86 := Bw64_T.fz 2
                have f87 := Bw64_T.fz 3
                have f88 := Bw64_T.fz 4
                have f89 := Bw64_T.fz 5
                have f90 := Bw64_T.fz 6
                have f91 := Bw64_T.fz 7
                have f92 := Bw64_T.fz 8
                go_wp2_with (first | (refine store_bl ?_ 101 (.tmp 4) (.tmp 89) ?_ (BL.other Bw64_R (by show w.heap.size + 1 ≠ w20.heap.size + 1; omega) _) ?_ [.int .i64 0, .int .i64 ag, .int .i64 fw, .bool false, .bool fi, .bool dn, .int .i64 0, .int .i64 0, .int .i64 x] ?_ sz_th rfl rfl ?_; rfl; rfl; rfl; rfl; intro W93 BW93_R kW93; have KW93 := Keeps.new (Touch.setCell Kw64 (fun hlt => absurd hlt (by show ¬ (w20.heap.size + 1 < w.heap.size); omega)) _) kW93 (by show w.heap.size ≤ w.heap.size + 1; omega); have zW93 : w64.heap.size + 0 ≤ W93.heap.size := Nat.le_trans (by simp) kW93.size; clear l71 l72 l73 l74 c75 c76 c77 c78 c79 c80 c81 c82 c83 f84 f85 f86 f87 f88 f89 f90 f91 f92 Bw64_S Bw64_R Bw64_H Bw64_T Kw64 kW93; have l94 := BW93_R.lt))
                have HE := BW93_R
                have s0 := HE.c 0 (.int .i64 0) rfl
                have s1 := HE.c 1 (.int .i64 ag) rfl
                have s2 := HE.c 2 (.int .i64 fw) rfl
                have s3 := HE.c 3 (.bool false) rfl
                have s4 := HE.c 4 (.bool fi) rfl
                have s5 := HE.c 5 (.bool dn) rfl
                have s6 := HE.c 6 (.int .i64 0) rfl
                have s7 := HE.c 7 (.int .i64 0) rfl
                have s8 := HE.c 8 (.int .i64 x) rfl
                refine bodyPost_ret (v := .tuple #[.agg #[.int .i64 0, .int .i64 ag, .int .i64 fw, .bool false, .bool fi, .bool dn, .int .i64 0, .int .i64 0, .int .i64 x], .int .i64 0]) (by simp [results, Try.results63, go_sem, s0, s1, s2, s3, s4, s5, s6, s7, s8]) rfl ⟨?_, KW93⟩
                rw [HA.out]; rfl
          ·
            have HA := Lib.hid (show atT n f m C a = (th0, 12) from atT_end HT1.out HOK.out HH.out (fun h => by cases h.2) h4)
            go_wp2_with fail
            refine named (fun W95 hW95 => ?_)
            have KW95 : Keeps w W95 := by rw [hW95]; exact ((Kw20.alloc _).alloc _)
            have BW95_S : BL W95 (w.heap.size) 34 [.pointer (some ⟨ba, 0, none⟩), .pointer (some ⟨bt, 0, none⟩)] := by rw [hW95]; exact (BL.alloc (BL.alloc Bw20_S _) _)
            have BW95_R : BL W95 (w.heap.size + 1) 101 [.int .i64 0, .int .i64 0, .int .i64 0, .bool false, .bool false, .bool false, .int .i64 0, .int .i64 0, .int .i64 0] := by rw [hW95]; exact (BL.alloc (BL.alloc Bw20_R _) _)
            have BW95_H : BL W95 (w20.heap.size) 96 [.int .i64 0, .int .i64 ag, .int .i64 fw, .bool false, .bool fi, .bool dn] := by rw [hW95]; exact (BL.alloc (BL.new1 _ _ _ [.int .i64 0, .int .i64 ag, .int .i64 fw, .bool false, .bool fi, .bool dn] _ (by simp) rfl) _)
            have BW95_T : BL W95 (w20.heap.size + 1) 101 [.int .i64 0, .int .i64 ag, .int .i64 fw, .bool false, .bool fi, .bool dn, .int .i64 0, .int .i64 0, .int .i64 1] := by rw [hW95]; exact (BL.new1 _ _ _ [.int .i64 0, .int .i64 ag, .int .i64 fw, .bool false, .bool fi, .bool dn, .int .i64 0, .int .i64 0, .int .i64 1] _ (by simp) rfl)
            have zW95 : w20.heap.size + 2 ≤ W95.heap.size := by rw [hW95]; simp
            clear l21 l22 c23 c24 Bw20_S Bw20_R Kw20 hW95
            have l96 := BW95_S.lt
            have l97 := BW95_R.lt
            have l98 := BW95_H.lt
            have l99 := BW95_T.lt
            have c100 : W95.cell? ⟨w.heap.size, 0, none⟩ = some (.pointer (some ⟨ba, 0, none⟩)) := BW95_S.c 0 _ rfl
            have c101 : W95.cell? ⟨w.heap.size, 1, none⟩ = some (.pointer (some ⟨bt, 0, none⟩)) := BW95_S.c 1 _ rfl
            refine Calls.mono (HLn.out _ (hSt.out.keep KW95).ar (a + 1) (by omega) (by omega)) ?_
            rintro e wz ⟨rfl, rfl⟩
            clear l96 l97 l98 l99 c100 c101
            have l102 := BW95_S.lt
            have l103 := BW95_R.lt
            have l104 := BW95_H.lt
            have l105 := BW95_T.lt
            go_wp2_with (first | (refine store_bl ?_ 101 (.tmp 4) (.tmp 52) ?_ BW95_R ?_ [.int .i64 0, .int .i64 0, .int .i64 0, .bool false, .bool false, .bool false, .int .i64 0, .int .i64 0, .int .i64 0] ?_ sz_th rfl rfl ?_; rfl; rfl; rfl; rfl; intro W106 BW106_R kW106; have KW106 := Keeps.new KW95 kW106 (by show w.heap.size ≤ w.heap.size + 1; omega); have zW106 : W95.heap.size + 0 ≤ W106.heap.size := Nat.le_trans (by simp) kW106.size; clear l102 l103 l104 l105 BW95_S BW95_R BW95_H BW95_T KW95 kW106; have l107 := BW106_R.lt))
            have HE := BW106_R
            have s0 := HE.c 0 (.int .i64 0) rfl
            have s1 := HE.c 1 (.int .i64 0) rfl
            have s2 := HE.c 2 (.int .i64 0) rfl
            have s3 := HE.c 3 (.bool false) rfl
            have s4 := HE.c 4 (.bool false) rfl
            have s5 := HE.c 5 (.bool false) rfl
            have s6 := HE.c 6 (.int .i64 0) rfl
            have s7 := HE.c 7 (.int .i64 0) rfl
            have s8 := HE.c 8 (.int .i64 0) rfl
            refine bodyPost_ret (v := .tuple #[.agg #[.int .i64 0, .int .i64 0, .int .i64 0, .bool false, .bool false, .bool false, .int .i64 0, .int .i64 0, .int .i64 0], .int .i64 12]) (by simp [results, Try.results63, go_sem, s0, s1, s2, s3, s4, s5, s6, s7, s8]) rfl ⟨?_, KW106⟩
            rw [HA.out]; rfl
      ·
        have hcb : (c == 0) = false := by simpa using hc
        have hcn : (c != 0) = true := by simpa using hc
        by_cases h4 : a + 1 < n
        ·
          have HC := Lib.hid hc
          clear hc
          go_wp2_with fail
          refine named (fun W108 hW108 => ?_)
          have KW108 : Keeps w W108 := by rw [hW108]; exact ((Kw20.alloc _).alloc _)
          have BW108_S : BL W108 (w.heap.size) 34 [.pointer (some ⟨ba, 0, none⟩), .pointer (some ⟨bt, 0, none⟩)] := by rw [hW108]; exact (BL.alloc (BL.alloc Bw20_S _) _)
          have BW108_R : BL W108 (w.heap.size + 1) 101 [.int .i64 0, .int .i64 0, .int .i64 0, .bool false, .bool false, .bool false, .int .i64 0, .int .i64 0, .int .i64 0] := by rw [hW108]; exact (BL.alloc (BL.alloc Bw20_R _) _)
          have BW108_H : BL W108 (w20.heap.size) 96 [.int .i64 c, .int .i64 ag, .int .i64 fw, .bool mk, .bool fi, .bool dn] := by rw [hW108]; exact (BL.alloc (BL.new1 _ _ _ [.int .i64 c, .int .i64 ag, .int .i64 fw, .bool mk, .bool fi, .bool dn] _ (by simp) rfl) _)
          have BW108_T : BL W108 (w20.heap.size + 1) 101 [.int .i64 c, .int .i64 ag, .int .i64 fw, .bool mk, .bool fi, .bool dn, .int .i64 0, .int .i64 0, .int .i64 1] := by rw [hW108]; exact (BL.new1 _ _ _ [.int .i64 c, .int .i64 ag, .int .i64 fw, .bool mk, .bool fi, .bool dn, .int .i64 0, .int .i64 0, .int .i64 1] _ (by simp) rfl)
          have zW108 : w20.heap.size + 2 ≤ W108.heap.size := by rw [hW108]; simp
          clear l21 l22 c23 c24 Bw20_S Bw20_R Kw20 hW108
          have l109 := BW108_S.lt
          have l110 := BW108_R.lt
          have l111 := BW108_H.lt
          have l112 := BW108_T.lt
          have c113 : W108.cell? ⟨w.heap.size, 0, none⟩ = some (.pointer (some ⟨ba, 0, none⟩)) := BW108_S.c 0 _ rfl
          have c114 : W108.cell? ⟨w.heap.size, 1, none⟩ = some (.pointer (some ⟨bt, 0, none⟩)) := BW108_S.c 1 _ rfl
          refine Calls.mono (HLd.out _ (hSt.out.keep KW108).ar (a + 1) (by omega) (by omega)) ?_
          rintro e wz ⟨rfl, rfl⟩
          generalize hx : f (a + 1).toNat = x
          have HX := Lib.hid hx
          clear hx
          clear l109 l110 l111 l112 c113 c114
          have l115 := BW108_S.lt
          have l116 := BW108_R.lt
          have l117 := BW108_H.lt
          have l118 := BW108_T.lt
          have c119 : W108.cell? ⟨w.heap.size, 0, none⟩ = some (.pointer (some ⟨ba, 0, none⟩)) := BW108_S.c 0 _ rfl
          have c120 : W108.cell? ⟨w.heap.size, 1, none⟩ = some (.pointer (some ⟨bt, 0, none⟩)) := BW108_S.c 1 _ rfl
          have c121 : W108.cell? ⟨w20.heap.size, 0, none⟩ = some (.int .i64 c) := BW108_H.c 0 _ rfl
          have c122 : W108.cell? ⟨w20.heap.size, 1, none⟩ = some (.int .i64 ag) := BW108_H.c 1 _ rfl
          have c123 : W108.cell? ⟨w20.heap.size, 2, none⟩ = some (.int .i64 fw) := BW108_H.c 2 _ rfl
          have c124 : W108.cell? ⟨w20.heap.size, 3, none⟩ = some (.bool mk) := BW108_H.c 3 _ rfl
          have c125 : W108.cell? ⟨w20.heap.size, 4, none⟩ = some (.bool fi) := BW108_H.c 4 _ rfl
          have c126 : W108.cell? ⟨w20.heap.size, 5, none⟩ = some (.bool dn) := BW108_H.c 5 _ rfl
          have c127 : W108.cell? ⟨w20.heap.size + 1, 0, none⟩ = some (.int .i64 c) := BW108_T.c 0 _ rfl
          have c128 : W108.cell? ⟨w20.heap.size + 1, 1, none⟩ = some (.int .i64 ag) := BW108_T.c 1 _ rfl
          have c129 : W108.cell? ⟨w20.heap.size + 1, 2, none⟩ = some (.int .i64 fw) := BW108_T.c 2 _ rfl
          have c130 : W108.cell? ⟨w20.heap.size + 1, 3, none⟩ = some (.bool mk) := BW108_T.c 3 _ rfl
          have c131 : W108.cell? ⟨w20.heap.size + 1, 4, none⟩ = some (.bool fi) := BW108_T.c 4 _ rfl
          have c132 : W108.cell? ⟨w20.heap.size + 1, 5, none⟩ = some (.bool dn) := BW108_T.c 5 _ rfl
          have c133 : W108.cell? ⟨w20.heap.size + 1, 6, none⟩ = some (.int .i64 0) := BW108_T.c 6 _ rfl
          have c134 : W108.cell? ⟨w20.heap.size + 1, 7, none⟩ = some (.int .i64 0) := BW108_T.c 7 _ rfl
          have c135 : W108.cell? ⟨w20.heap.size + 1, 8, none⟩ = some (.int .i64 1) := BW108_T.c 8 _ rfl
          go_wp2_with fail
          refine Calls.mono (HI0.out _ _ _ _ _ _ _ _ _ _ (B := true) hcn) ?_
          rintro e w136 ⟨rfl, kw136⟩
          have Kw136 := Keeps.trans KW108 kw136
          have Bw136_S := BL.keep BW108_S kw136
          have Bw136_R := BL.keep BW108_R kw136
          have Bw136_H := BL.keep BW108_H kw136
          have Bw136_T := BL.keep BW108_T kw136
          have zw136 := kw136.size
          clear l115 l116 l117 l118 c119 c120 c121 c122 c123 c124 c125 c126 c127 c128 c129 c130 c131 c132 c133 c134 c135 BW108_S BW108_R BW108_H BW108_T KW108 kw136
          have l137 := Bw136_S.lt
          have l138 := Bw136_R.lt
          have l139 := Bw136_H.lt
          have l140 := Bw136_T.lt
          have c141 : w136.cell? ⟨w.heap.size, 0, none⟩ = some (.pointer (some ⟨ba, 0, none⟩)) := Bw136_S.c 0 _ rfl
          have c142 : w136.cell? ⟨w.heap.size, 1, none⟩ = some (.pointer (some ⟨bt, 0, none⟩)) := Bw136_S.c 1 _ rfl
          have c143 : w136.cell? ⟨w20.heap.size, 0, none⟩ = some (.int .i64 c) := Bw136_H.c 0 _ rfl
          have c144 : w136.cell? ⟨w20.heap.size, 1, none⟩ = some (.int .i64 ag) := Bw136_H.c 1 _ rfl
          have c145 : w136.cell? ⟨w20.heap.size, 2, none⟩ = some (.int .i64 fw) := Bw136_H.c 2 _ rfl
          have c146 : w136.cell? ⟨w20.heap.size, 3, none⟩ = some (.bool mk) := Bw136_H.c 3 _ rfl
          have c147 : w136.cell? ⟨w20.heap.size, 4, none⟩ = some (.bool fi) := Bw136_H.c 4 _ rfl
          have c148 : w136.cell? ⟨w20.heap.size, 5, none⟩ = some (.bool dn) := Bw136_H.c 5 _ rfl
          go_wp2_with fail
          refine Calls.mono (HSh.out _ (hSt.out.keep Kw136) c x) ?_
          rintro e w149 ⟨rfl, kw149⟩
          have Kw149 := Keeps.trans Kw136 kw149
          have Bw149_S := BL.keep Bw136_S kw149
          have Bw149_R := BL.keep Bw136_R kw149
          have Bw149_H := BL.keep Bw136_H kw149
          have Bw149_T := BL.keep Bw136_T kw149
          have zw149 := kw149.size
          clear l137 l138 l139 l140 c141 c142 c143 c144 c145 c146 c147 c148 Bw136_S Bw136_R Bw136_H Bw136_T Kw136 kw149
          have l150 := Bw149_S.lt
          have l151 := Bw149_R.lt
          have l152 := Bw149_H.lt
          have l153 := Bw149_T.lt
          have c154 : w149.cell? ⟨w.heap.size, 0, none⟩ = some (.pointer (some ⟨ba, 0, none⟩)) := Bw149_S.c 0 _ rfl
          have c155 : w149.cell? ⟨w.heap.size, 1, none⟩ = some (.pointer (some ⟨bt, 0, none⟩)) := Bw149_S.c 1 _ rfl
          have c156 : w149.cell? ⟨w20.heap.size + 1, 0, none⟩ = some (.int .i64 c) := Bw149_T.c 0 _ rfl
          have c157 : w149.cell? ⟨w20.heap.size + 1, 1, none⟩ = some (.int .i64 ag) := Bw149_T.c 1 _ rfl
          have c158 : w149.cell? ⟨w20.heap.size + 1, 2, none⟩ = some (.int .i64 fw) := Bw149_T.c 2 _ rfl
          have c159 : w149.cell? ⟨w20.heap.size + 1, 3, none⟩ = some (.bool mk) := Bw149_T.c 3 _ rfl
          have c160 : w149.cell? ⟨w20.heap.size + 1, 4, none⟩ = some (.bool fi) := Bw149_T.c 4 _ rfl
          have c161 : w149.cell? ⟨w20.heap.size + 1, 5, none⟩ = some (.bool dn) := Bw149_T.c 5 _ rfl
          have c162 : w149.cell? ⟨w20.heap.size + 1, 6, none⟩ = some (.int .i64 0) := Bw149_T.c 6 _ rfl
          have c163 : w149.cell? ⟨w20.heap.size + 1, 7, none⟩ = some (.int .i64 0) := Bw149_T.c 7 _ rfl
          have c164 : w149.cell? ⟨w20.heap.size + 1, 8, none⟩ = some (.int .i64 1) := Bw149_T.c 8 _ rfl
          have f165 := Bw149_T.fz 0
          have f166 := Bw149_T.fz 1
          have f167 := Bw149_T.fz 2
          have f168 := Bw149_T.fz 3
          have f169 := Bw149_T.fz 4
          have f170 := Bw149_T.fz 5
          have f171 := Bw149_T.fz 6
          have f172 := Bw149_T.fz 7
          have f173 := Bw149_T.fz 8
          have hb := HBd.out c x
          generalize hr : shR C m c x = r at *
          generalize hd : shD C m c x = d at *
          have HR := Lib.hid hr
          have HD := Lib.hid hd
          clear hr hd
          by_cases h5 : shE C m c x = 0
          ·
            obtain ⟨g1, g2, g3, g4⟩ := hb h5
            have HE5 := Lib.hid h5
            rw [h5]
            clear h5 hb
            have w1 : IntKind.i64.wrap (2 + r) = 2 + r := IntWalk.i64_in _ ⟨by omega, by omega⟩
            have w2 : IntKind.i64.wrap (2 + r + d) = 2 + r + d := IntWalk.i64_in _ ⟨by omega, by omega⟩
            have w3 : ¬ (2 + r + d < 2) := by omega
            go_wp2_with fail
            refine named (fun W174 hW174 => ?_)
            have KW174 : Keeps w W174 := by rw [hW174]; exact (Touch.setCell (Touch.setCell Kw149 (fun hlt => absurd hlt (by show ¬ (w20.heap.size + 1 < w.heap.size); omega)) _) (fun hlt => absurd hlt (by show ¬ (w20.heap.size + 1 < w.heap.size); omega)) _)
            have BW174_S : BL W174 (w.heap.size) 34 [.pointer (some ⟨ba, 0, none⟩), .pointer (some ⟨bt, 0, none⟩)] := by rw [hW174]; exact (BL.other (BL.other Bw149_S (by show w.heap.size ≠ w20.heap.size + 1; omega) _) (by show w.heap.size ≠ w20.heap.size + 1; omega) _)
            have BW174_R : BL W174 (w.heap.size + 1) 101 [.int .i64 0, .int .i64 0, .int .i64 0, .bool false, .bool false, .bool false, .int .i64 0, .int .i64 0, .int .i64 0] := by rw [hW174]; exact (BL.other (BL.other Bw149_R (by show w.heap.size + 1 ≠ w20.heap.size + 1; omega) _) (by show w.heap.size + 1 ≠ w20.heap.size + 1; omega) _)
            have BW174_H : BL W174 (w20.heap.size) 96 [.int .i64 c, .int .i64 ag, .int .i64 fw, .bool mk, .bool fi, .bool dn] := by rw [hW174]; exact (BL.other (BL.other Bw149_H (by show w20.heap.size ≠ w20.heap.size + 1; omega) _) (by show w20.heap.size ≠ w20.heap.size + 1; omega) _)
            have BW174_T : BL W174 (w20.heap.size + 1) 101 [.int .i64 c, .int .i64 ag, .int .i64 fw, .bool mk, .bool fi, .bool dn, .int .i64 r, .int .i64 d, .int .i64 1] := by rw [hW174]; exact (BL.set (BL.set Bw149_T 6 (.int .i64 r)) 7 (.int .i64 d))
            have zW174 : w149.heap.size + 0 ≤ W174.heap.size := by rw [hW174]; simp
            clear l150 l151 l152 l153 c154 c155 c156 c157 c158 c159 c160 c161 c162 c163 c164 f165 f166 f167 f168 f169 f170 f171 f172 f173 Bw149_S Bw149_R Bw149_H Bw149_T Kw149 hW174
            have l175 := BW174_S.lt
            have l176 := BW174_R.lt
            have l177 := BW174_H.lt
            have l178 := BW174_T.lt
            clear w1 w2 w3
            refine Calls.mono (HT.out _ _ (hSt.out.keep KW174) (2 + r + d)) ?_
            rintro e w179 ⟨rfl, kw179⟩
            have Kw179 := Keeps.trans KW174 kw179
            have Bw179_S := BL.keep BW174_S kw179
            have Bw179_R := BL.keep BW174_R kw179
            have Bw179_H := BL.keep BW174_H kw179
            have Bw179_T := BL.keep BW174_T kw179
            have zw179 := kw179.size
            clear l175 l176 l177 l178 BW174_S BW174_R BW174_H BW174_T KW174 kw179
            have l180 := Bw179_S.lt
            have l181 := Bw179_R.lt
            have l182 := Bw179_H.lt
            have l183 := Bw179_T.lt
            cases h6 : thB n a (2 + r + d) with
            | false =>
              have HA := Lib.hid (atT_far HT1.out HOK.out HH.out HC.out h4 HX.out HE5.out HR.out HD.out h6)
              clear h6
              go_wp2_with (first | (refine store_bl ?_ 101 (.tmp 4) (.tmp 86) ?_ Bw179_R ?_ [.int .i64 0, .int .i64 0, .int .i64 0, .bool false, .bool false, .bool false, .int .i64 0, .int .i64 0, .int .i64 0] ?_ sz_th rfl rfl ?_; rfl; rfl; rfl; rfl; intro W184 BW184_R kW184; have KW184 := Keeps.new Kw179 kW184 (by show w.heap.size ≤ w.heap.size + 1; omega); have zW184 : w179.heap.size + 0 ≤ W184.heap.size := Nat.le_trans (by simp) kW184.size; clear l180 l181 l182 l183 Bw179_S Bw179_R Bw179_H Bw179_T Kw179 kW184; have l185 := BW184_R.lt))
              have HE := BW184_R
              have s0 := HE.c 0 (.int .i64 0) rfl
              have s1 := HE.c 1 (.int .i64 0) rfl
              have s2 := HE.c 2 (.int .i64 0) rfl
              have s3 := HE.c 3 (.bool false) rfl
              have s4 := HE.c 4 (.bool false) rfl
              have s5 := HE.c 5 (.bool false) rfl
              have s6 := HE.c 6 (.int .i64 0) rfl
              have s7 := HE.c 7 (.int .i64 0) rfl
              have s8 := HE.c 8 (.int .i64 0) rfl
              refine bodyPost_ret (v := .tuple #[.agg #[.int .i64 0, .int .i64 0, .int .i64 0, .bool false, .bool false, .bool false, .int .i64 0, .int .i64 0, .int .i64 0], .int .i64 12]) (by simp [results, Try.results63, go_sem, s0, s1, s2, s3, s4, s5, s6, s7, s8]) rfl ⟨?_, KW184⟩
              rw [HA.out]; rfl
            | true =>
              have HA := Lib.hid (atT_obj HT1.out HOK.out HH.out HC.out h4 HX.out HE5.out HR.out HD.out h6)
              clear h6
              clear l180 l181 l182 l183
              have l186 := Bw179_S.lt
              have l187 := Bw179_R.lt
              have l188 := Bw179_H.lt
              have l189 := Bw179_T.lt
              have c190 : w179.cell? ⟨w20.heap.size + 1, 0, none⟩ = some (.int .i64 c) := Bw179_T.c 0 _ rfl
              have c191 : w179.cell? ⟨w20.heap.size + 1, 1, none⟩ = some (.int .i64 ag) := Bw179_T.c 1 _ rfl
              have c192 : w179.cell? ⟨w20.heap.size + 1, 2, none⟩ = some (.int .i64 fw) := Bw179_T.c 2 _ rfl
              have c193 : w179.cell? ⟨w20.heap.size + 1, 3, none⟩ = some (.bool mk) := Bw179_T.c 3 _ rfl
              have c194 : w179.cell? ⟨w20.heap.size + 1, 4, none⟩ = some (.bool fi) := Bw179_T.c 4 _ rfl
              have c195 : w179.cell? ⟨w20.heap.size + 1, 5, none⟩ = some (.bool dn) := Bw179_T.c 5 _ rfl
              have c196 : w179.cell? ⟨w20.heap.size + 1, 6, none⟩ = some (.int .i64 r) := Bw179_T.c 6 _ rfl
              have c197 : w179.cell? ⟨w20.heap.size + 1, 7, none⟩ = some (.int .i64 d) := Bw179_T.c 7 _ rfl
              have c198 : w179.cell? ⟨w20.heap.size + 1, 8, none⟩ = some (.int .i64 1) := Bw179_T.c 8 _ rfl
              have f199 := Bw179_T.fz 0
              have f200 := Bw179_T.fz 1
              have f201 := Bw179_T.fz 2
              have f202 := Bw179_T.fz 3
              have f203 := Bw179_T.fz 4
              have f204 := Bw179_T.fz 5
              have f205 := Bw179_T.fz 6
              have f206 := Bw179_T.fz 7
              have f207 := Bw179_T.fz 8
              go_wp2_with (first | (refine store_bl ?_ 101 (.tmp 4) (.tmp 89) ?_ (BL.other Bw179_R (by show w.heap.size + 1 ≠ w20.heap.size + 1; omega) _) ?_ [.int .i64 c, .int .i64 ag, .int .i64 fw, .bool mk, .bool fi, .bool dn, .int .i64 r, .int .i64 d, .int .i64 (2 + r + d)] ?_ sz_th rfl rfl ?_; rfl; rfl; rfl; rfl; intro W208 BW208_R kW208; have KW208 := Keeps.new (Touch.setCell Kw179 (fun hlt => absurd hlt (by show ¬ (w20.heap.size + 1 < w.heap.size); omega)) _) kW208 (by show w.heap.size ≤ w.heap.size + 1; omega); have zW208 : w179.heap.size + 0 ≤ W208.heap.size := Nat.le_trans (by simp) kW208.size; clear l186 l187 l188 l189 c190 c191 c192 c193 c194 c195 c196 c197 c198 f199 f200 f201 f202 f203 f204 f205 f206 f207 Bw179_S Bw179_R Bw179_H Bw179_T Kw179 kW208; have l209 := BW208_R.lt))
              have HE := BW208_R
              have s0 := HE.c 0 (.int .i64 c) rfl
              have s1 := HE.c 1 (.int .i64 ag) rfl
              have s2 := HE.c 2 (.int .i64 fw) rfl
              have s3 := HE.c 3 (.bool mk) rfl
              have s4 := HE.c 4 (.bool fi) rfl
              have s5 := HE.c 5 (.bool dn) rfl
              have s6 := HE.c 6 (.int .i64 r) rfl
              have s7 := HE.c 7 (.int .i64 d) rfl
              have s8 := HE.c 8 (.int .i64 (2 + r + d)) rfl
              refine bodyPost_ret (v := .tuple #[.agg #[.int .i64 c, .int .i64 ag, .int .i64 fw, .bool mk, .bool fi, .bool dn, .int .i64 r, .int .i64 d, .int .i64 (2 + r + d)], .int .i64 0]) (by simp [results, Try.results63, go_sem, s0, s1, s2, s3, s4, s5, s6, s7, s8]) rfl ⟨?_, KW208⟩
              rw [HA.out]; rfl
          ·
            have HA := Lib.hid (atT_shape HT1.out HOK.out HH.out HC.out h4 HX.out h5)
            have h7 : (shE C m c x != 0) = true := by simpa using h5
            have h8 : (shE C m c x == 0) = false := by simpa using h5
            clear hb
            go_wp2_with (first | (refine store_bl ?_ 101 (.tmp 4) (.tmp 86) ?_ (BL.other (BL.other Bw149_R (by show w.heap.size + 1 ≠ w20.heap.size + 1; omega) _) (by show w.heap.size + 1 ≠ w20.heap.size + 1; omega) _) ?_ [.int .i64 0, .int .i64 0, .int .i64 0, .bool false, .bool false, .bool false, .int .i64 0, .int .i64 0, .int .i64 0] ?_ sz_th rfl rfl ?_; rfl; rfl; rfl; rfl; intro W210 BW210_R kW210; have KW210 := Keeps.new (Touch.setCell (Touch.setCell Kw149 (fun hlt => absurd hlt (by show ¬ (w20.heap.size + 1 < w.heap.size); omega)) _) (fun hlt => absurd hlt (by show ¬ (w20.heap.size + 1 < w.heap.size); omega)) _) kW210 (by show w.heap.size ≤ w.heap.size + 1; omega); have zW210 : w149.heap.size + 0 ≤ W210.heap.size := Nat.le_trans (by simp) kW210.size; clear l150 l151 l152 l153 c154 c155 c156 c157 c158 c159 c160 c161 c162 c163 c164 f165 f166 f167 f168 f169 f170 f171 f172 f173 Bw149_S Bw149_R Bw149_H Bw149_T Kw149 kW210; have l211 := BW210_R.lt))
            have HE := BW210_R
            have s0 := HE.c 0 (.int .i64 0) rfl
            have s1 := HE.c 1 (.int .i64 0) rfl
            have s2 := HE.c 2 (.int .i64 0) rfl
            have s3 := HE.c 3 (.bool false) rfl
            have s4 := HE.c 4 (.bool false) rfl
            have s5 := HE.c 5 (.bool false) rfl
            have s6 := HE.c 6 (.int .i64 0) rfl
            have s7 := HE.c 7 (.int .i64 0) rfl
            have s8 := HE.c 8 (.int .i64 0) rfl
            refine bodyPost_ret (v := .tuple #[.agg #[.int .i64 0, .int .i64 0, .int .i64 0, .bool false, .bool false, .bool false, .int .i64 0, .int .i64 0, .int .i64 0], .int .i64 12]) (by simp [results, Try.results63, go_sem, s0, s1, s2, s3, s4, s5, s6, s7, s8]) rfl ⟨?_, KW210⟩
            rw [HA.out]; rfl
        ·
          have HA := Lib.hid (show atT n f m C a = (th0, 12) from atT_end HT1.out HOK.out HH.out (fun h => hc h.1) h4)
          clear hc
          go_wp2_with fail
          refine named (fun W212 hW212 => ?_)
          have KW212 : Keeps w W212 := by rw [hW212]; exact ((Kw20.alloc _).alloc _)
          have BW212_S : BL W212 (w.heap.size) 34 [.pointer (some ⟨ba, 0, none⟩), .pointer (some ⟨bt, 0, none⟩)] := by rw [hW212]; exact (BL.alloc (BL.alloc Bw20_S _) _)
          have BW212_R : BL W212 (w.heap.size + 1) 101 [.int .i64 0, .int .i64 0, .int .i64 0, .bool false, .bool false, .bool false, .int .i64 0, .int .i64 0, .int .i64 0] := by rw [hW212]; exact (BL.alloc (BL.alloc Bw20_R _) _)
          have BW212_H : BL W212 (w20.heap.size) 96 [.int .i64 c, .int .i64 ag, .int .i64 fw, .bool mk, .bool fi, .bool dn] := by rw [hW212]; exact (BL.alloc (BL.new1 _ _ _ [.int .i64 c, .int .i64 ag, .int .i64 fw, .bool mk, .bool fi, .bool dn] _ (by simp) rfl) _)
          have BW212_T : BL W212 (w20.heap.size + 1) 101 [.int .i64 c, .int .i64 ag, .int .i64 fw, .bool mk, .bool fi, .bool dn, .int .i64 0, .int .i64 0, .int .i64 1] := by rw [hW212]; exact (BL.new1 _ _ _ [.int .i64 c, .int .i64 ag, .int .i64 fw, .bool mk, .bool fi, .bool dn, .int .i64 0, .int .i64 0, .int .i64 1] _ (by simp) rfl)
          have zW212 : w20.heap.size + 2 ≤ W212.heap.size := by rw [hW212]; simp
          clear l21 l22 c23 c24 Bw20_S Bw20_R Kw20 hW212
          have l213 := BW212_S.lt
          have l214 := BW212_R.lt
          have l215 := BW212_H.lt
          have l216 := BW212_T.lt
          have c217 : W212.cell? ⟨w.heap.size, 0, none⟩ = some (.pointer (some ⟨ba, 0, none⟩)) := BW212_S.c 0 _ rfl
          have c218 : W212.cell? ⟨w.heap.size, 1, none⟩ = some (.pointer (some ⟨bt, 0, none⟩)) := BW212_S.c 1 _ rfl
          refine Calls.mono (HLn.out _ (hSt.out.keep KW212).ar (a + 1) (by omega) (by omega)) ?_
          rintro e wz ⟨rfl, rfl⟩
          clear l213 l214 l215 l216 c217 c218
          have l219 := BW212_S.lt
          have l220 := BW212_R.lt
          have l221 := BW212_H.lt
          have l222 := BW212_T.lt
          go_wp2_with (first | (refine store_bl ?_ 101 (.tmp 4) (.tmp 52) ?_ BW212_R ?_ [.int .i64 0, .int .i64 0, .int .i64 0, .bool false, .bool false, .bool false, .int .i64 0, .int .i64 0, .int .i64 0] ?_ sz_th rfl rfl ?_; rfl; rfl; rfl; rfl; intro W223 BW223_R kW223; have KW223 := Keeps.new KW212 kW223 (by show w.heap.size ≤ w.heap.size + 1; omega); have zW223 : W212.heap.size + 0 ≤ W223.heap.size := Nat.le_trans (by simp) kW223.size; clear l219 l220 l221 l222 BW212_S BW212_R BW212_H BW212_T KW212 kW223; have l224 := BW223_R.lt))
          have HE := BW223_R
          have s0 := HE.c 0 (.int .i64 0) rfl
          have s1 := HE.c 1 (.int .i64 0) rfl
          have s2 := HE.c 2 (.int .i64 0) rfl
          have s3 := HE.c 3 (.bool false) rfl
          have s4 := HE.c 4 (.bool false) rfl
          have s5 := HE.c 5 (.bool false) rfl
          have s6 := HE.c 6 (.int .i64 0) rfl
          have s7 := HE.c 7 (.int .i64 0) rfl
          have s8 := HE.c 8 (.int .i64 0) rfl
          refine bodyPost_ret (v := .tuple #[.agg #[.int .i64 0, .int .i64 0, .int .i64 0, .bool false, .bool false, .bool false, .int .i64 0, .int .i64 0, .int .i64 0], .int .i64 12]) (by simp [results, Try.results63, go_sem, s0, s1, s2, s3, s4, s5, s6, s7, s8]) rfl ⟨?_, KW223⟩
          rw [HA.out]; rfl

end Go.Proofs.Ytabfbgkablbeeaa
