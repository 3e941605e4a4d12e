/- Layer 15, scavenge: scan. -/
import Derived.Test.YtabfbgkablbeeaaG27
set_option linter.all false

namespace Go.Proofs.Ytabfbgkablbeeaa
open Go.RowKit

theorem scanR_append (mv : Sc → Int → Sc × Int) (p : Int) : ∀ (l1 l2 : List Int) (i : Nat) (s : Sc), scanR mv p i (l1 ++ l2) s = scanR mv p (i + l1.length) l2 (scanR mv p i l1 s)
  | [], _, _, _ => rfl
  | x :: l1, l2, i, s => by
    show scanR mv p (i + 1) (l1 ++ l2) _ = _
    rw [scanR_append mv p l1 l2 (i + 1)]
    show scanR mv p (i + 1 + l1.length) l2 _ = scanR mv p (i + (l1.length + 1)) l2 _
    rw [show i + 1 + l1.length = i + (l1.length + 1) by omega]
    rfl
section
variable {n m : Nat} {C : Nat → Cl} {f0 : Nat → Int} {Y D : List Int} {T0 O0 : Sp} {φ : Int → Int} {sn : Int → Nat} {s : Sc} {yg : Int → Bool} {thr : Int}
theorem Inv.scan_get (V : Wd n m C f0 Y D T0 O0) (I : Inv n m C f0 Y D T0 O0 φ sn s) {o : Int} (ho : o ∈ D ∨ φ o ≠ 0) (hs : sn (fm φ o) = 0) {j : Nat} (hj : (j : Int) < oR n m C f0 o) : s.f (fm φ o + 2 + (j : Int)).toNat = f0 (o + 2 + (j : Int)).toNat := by
  have hYD : o ∈ Y ∨ o ∈ D := ho.elim (fun h => .inr h) (fun h => .inl (I.phi o h))
  obtain ⟨e0, hc, hok, r0, hk2, a1, a2⟩ := V.obj o hYD
  have h2 : s.f (fm φ o + (2 + (j : Int))).toNat = wdQ f0 φ 0 o (2 + (j : Int)) := by
    rcases ho with hd | hd
    · obtain ⟨p0, p1⟩ := I.fmD V hd
      have := I.olds o hd (2 + (j : Int)) (by omega) (by omega)
      rw [p1] at hs ⊢
      rw [hs] at this
      exact this
    · have hp : fm φ o = φ o := by unfold fm; rw [if_neg hd]
      have := (I.news o hd).2 (2 + (j : Int)) (by omega) (by omega)
      rw [hp] at hs ⊢
      rw [hs] at this
      exact this
  unfold wdQ at h2
  rw [if_neg (by omega)] at h2
  rw [show (fm φ o + 2 + (j : Int)) = fm φ o + (2 + (j : Int)) by omega, h2]
  congr 2
  omega
/-- The state when k references of what lies at p are scanned. -/
def scnK (n m : Nat) (C : Nat → Cl) (yg : Int → Bool) (thr : Int) (s : Sc) (p : Int) (r k : Nat) : Sc := scanR (mvd n m C yg thr) p 0 ((rfs s.f p r).take k) s
def scnX (s : Sc) (p : Int) (k : Nat) : Int := s.f (p + 2 + (k : Int)).toNat
theorem scan_round (V : Wd n m C f0 Y D T0 O0) (G : Yg n m C f0 Y D O0 yg) (hcl : ∀ o, o ∈ Y ∨ o ∈ D → ∀ i : Nat, (i : Int) < oR n m C f0 o → f0 (o + 2 + i).toNat = 0 ∨ f0 (o + 2 + i).toNat ∈ Y ∨ f0 (o + 2 + i).toNat ∈ D)
    (I : Inv n m C f0 Y D T0 O0 φ sn s) (Ac : Acc (oK n m C f0) Y T0 O0 φ s) {o : Int} (ho : o ∈ D ∨ φ o ≠ 0) (hs : sn (fm φ o) = 0) {k : Nat} (hk : k ≤ (oR n m C f0 o).toNat) :
    ∃ φk, Inv n m C f0 Y D T0 O0 φk (snS sn (fm φ o) k) (scnK n m C yg thr s (fm φ o) (oR n m C f0 o).toNat k) ∧ Acc (oK n m C f0) Y T0 O0 φk (scnK n m C yg thr s (fm φ o) (oR n m C f0 o).toNat k) ∧
      (∃ h, atT n (scnK n m C yg thr s (fm φ o) (oR n m C f0 o).toNat k).f m C (fm φ o) = (⟨h, oR n m C f0 o, (atT n f0 m C o).1.data, oK n m C f0 o⟩, 0) ∧ h.cls ≠ 0) ∧
      (k < (oR n m C f0 o).toNat → (scnX s (fm φ o) k = 0 ∨ scnX s (fm φ o) k ∈ Y ∨ scnX s (fm φ o) k ∈ D) ∧
        (∃ h, atT n (mvd n m C yg thr (scnK n m C yg thr s (fm φ o) (oR n m C f0 o).toNat k) (scnX s (fm φ o) k)).1.f m C (fm φ o) = (⟨h, oR n m C f0 o, (atT n f0 m C o).1.data, oK n m C f0 o⟩, 0) ∧ h.cls ≠ 0) ∧
        scnK n m C yg thr s (fm φ o) (oR n m C f0 o).toNat (k + 1) = { (mvd n m C yg thr (scnK n m C yg thr s (fm φ o) (oR n m C f0 o).toNat k) (scnX s (fm φ o) k)).1 with f := putF (mvd n m C yg thr (scnK n m C yg thr s (fm φ o) (oR n m C f0 o).toNat k) (scnX s (fm φ o) k)).1.f (fm φ o + 2 + (k : Int)).toNat (mvd n m C yg thr (scnK n m C yg thr s (fm φ o) (oR n m C f0 o).toNat k) (scnX s (fm φ o) k)).2 }) := by
  have hYD : o ∈ Y ∨ o ∈ D := ho.elim (fun h => .inr h) (fun h => .inl (I.phi o h))
  have hc := (V.obj o hYD).2.1
  have hr0 := (V.obj o hYD).2.2.2.1
  have hlen : (rfs s.f (fm φ o) (oR n m C f0 o).toNat).length = (oR n m C f0 o).toNat := by unfold rfs; simp
  have hX : ∀ j, j < (oR n m C f0 o).toNat → (rfs s.f (fm φ o) (oR n m C f0 o).toNat)[j]? = some (scnX s (fm φ o) j) := fun j hj => by
    unfold rfs scnX; rw [List.getElem?_map, List.getElem?_range hj]; rfl
  have htl : ((rfs s.f (fm φ o) (oR n m C f0 o).toNat).take k).length = k := by rw [List.length_take, hlen]; omega
  obtain ⟨φk, J, B, hext, _, _⟩ := scanR_inv (thr := thr) V G hcl ((rfs s.f (fm φ o) (oR n m C f0 o).toNat).take k) 0 φ sn s I Ac ho rfl hs (by rw [htl]; omega) (fun j hj => by
    rw [htl] at hj
    rw [List.getD_eq_getElem?_getD, List.getElem?_take, if_pos hj, hX j (by omega), Nat.zero_add]
    exact I.scan_get V ho hs (by omega))
  rw [htl, Nat.zero_add] at J
  have ho1 : o ∈ D ∨ φk o ≠ 0 := ho.imp_right (fun h => by rw [hext o h]; exact h)
  have hp1 : fm φk o = fm φ o := by
    rcases ho with h | h
    · rw [(I.fmD V h).2, (J.fmD V h).2]
    · unfold fm; rw [hext o h]
  obtain ⟨h1, e1, _, c1, _⟩ := J.at_place V ho1
  rw [hp1] at e1
  refine ⟨φk, J, B, ⟨h1, e1, by rw [c1]; exact hc⟩, fun hlt => ?_⟩
  have hxc := hcl o hYD k (by omega)
  have hxe : scnX s (fm φ o) k = f0 (o + 2 + (k : Int)).toNat := I.scan_get V ho hs (by omega)
  rw [← hxe] at hxc
  obtain ⟨φ2, J2, _, _, _, hext2, _⟩ := mvd_inv (thr := thr) V G J B hxc
  have ho2 : o ∈ D ∨ φ2 o ≠ 0 := ho1.imp_right (fun h => by rw [hext2 o h]; exact h)
  have hp2 : fm φ2 o = fm φ o := by
    rw [← hp1]
    rcases ho1 with h | h
    · rw [(J.fmD V h).2, (J2.fmD V h).2]
    · unfold fm; rw [hext2 o h]
  obtain ⟨h2, e2, _, c2, _⟩ := J2.at_place V ho2
  rw [hp2] at e2
  refine ⟨hxc, ⟨h2, e2, by rw [c2]; exact hc⟩, ?_⟩
  show scanR _ _ 0 (List.take (k + 1) _) s = _
  rw [List.take_succ, hX k hlt, Option.toList_some, scanR_append, htl, Nat.zero_add]
  rfl
variable {y : Nat → Sp} {w : World} {ba bw bt : Nat} {A : Option Addr} {cap : Nat} {rb : Nat} {olds all : Value}
set_option maxHeartbeats 2000000 in
/-- A scan does what the plain function says. -/
theorem scan_any (V : Wd n m C f0 Y D T0 O0) (G : Yg n m C f0 Y D O0 (ygB (y 1) (y 2))) (hcl : ∀ o, o ∈ Y ∨ o ∈ D → ∀ i : Nat, (i : Int) < oR n m C f0 o → f0 (o + 2 + i).toNat = 0 ∨ f0 (o + 2 + i).toNat ∈ Y ∨ f0 (o + 2 + i).toNat ∈ D)
    (I : Inv n m C f0 Y D T0 O0 φ sn s) (Ac : Acc (oK n m C f0) Y T0 O0 φ s) (h : Rn w ba bw n s.f bt A m cap C rb y thr s.tt s.od olds all) (hm : 0 < m) (hO0 : 0 ≤ O0.f ∧ O0.f ≤ O0.t) {o : Int} (ho : o ∈ D ∨ φ o ≠ 0) (hs : sn (fm φ o) = 0) :
    Calls Try.prog 26 #[.pointer (some ⟨rb, 0, none⟩), .int .i64 (fm φ o)] w (MvOut ba bw n bt A m cap C rb y thr olds all (scn n m C (ygB (y 1) (y 2)) thr s (fm φ o)) w) := by
  have hYD : o ∈ Y ∨ o ∈ D := ho.elim (fun h => .inr h) (fun h => .inl (I.phi o h))
  obtain ⟨hh, hat, _, hhc, _⟩ := I.at_place V ho
  have hc := (V.obj o hYD).2.1
  have hk4 := (V.obj o hYD).2.2.2
  have hn4 := V.n4
  have hp1 := I.fm1 V ho
  have hobj : objP (atT n s.f m C (fm φ o)) = atT n s.f m C (fm φ o) := objP_same (by rw [hat]; exact fun q => by rw [hhc] at q; exact hc q.2)
  have hRnd := fun k (hk : k ≤ (oR n m C f0 o).toNat) => scan_round (thr := thr) V G hcl I Ac ho hs hk
  have hr60 : (oR n m C f0 o).toNat ≤ 60 := by
    have := obj_ok h.st.tb.ok (show (objP (atT n s.f m C (fm φ o))).2 = 0 by rw [hobj, hat])
    rw [hobj, hat] at this
    dsimp only at this
    omega
  obtain ⟨r, hr⟩ : ∃ r, (oR n m C f0 o).toNat = r := ⟨_, rfl⟩
  have hrf := refs_any ba bw n s.f bt A m cap C w h.st rb (h.blk.c 1 _ rfl) (h.blk.c 2 _ rfl) (fm φ o) (by rw [hobj, hat])
  rw [hobj, hat] at hrf
  dsimp only at hrf
  rw [hr] at hrf hRnd hr60
  have HRf := Lib.hid hrf
  have HMv := Lib.hid (show ∀ k, k < r → ∀ w', Rn w' ba bw n (scnK n m C (ygB (y 1) (y 2)) thr s (fm φ o) r k).f bt A m cap C rb y thr (scnK n m C (ygB (y 1) (y 2)) thr s (fm φ o) r k).tt (scnK n m C (ygB (y 1) (y 2)) thr s (fm φ o) r k).od olds all →
      Calls Try.prog 25 #[.pointer (some ⟨rb, 0, none⟩), .int .i64 (scnX s (fm φ o) k)] w' (MvOut ba bw n bt A m cap C rb y thr olds all (mvd n m C (ygB (y 1) (y 2)) thr (scnK n m C (ygB (y 1) (y 2)) thr s (fm φ o) r k) (scnX s (fm φ o) k)) w') from fun k hk w' hw => by
    obtain ⟨φk, J, B, _, hq⟩ := hRnd k (by omega)
    exact move_any V G J B hw hm hO0 (hq hk).1)
  have HSr := Lib.hid (show ∀ k, k < r → ∀ w', St w' ba bw n (mvd n m C (ygB (y 1) (y 2)) thr (scnK n m C (ygB (y 1) (y 2)) thr s (fm φ o) r k) (scnX s (fm φ o) k)).1.f bt A m cap C →
      Calls Try.prog 18 #[.agg #[.pointer (some ⟨ba, 0, none⟩), .pointer (some ⟨bt, 0, none⟩)], .int .i64 (fm φ o), .int .i64 k, .int .i64 (mvd n m C (ygB (y 1) (y 2)) thr (scnK n m C (ygB (y 1) (y 2)) thr s (fm φ o) r k) (scnX s (fm φ o) k)).2] w' fun e w2 => e = .returned (.int .i64 0) ∧ St w2 ba bw n (scnK n m C (ygB (y 1) (y 2)) thr s (fm φ o) r (k + 1)).f bt A m cap C ∧ Only bw w' w2 from fun k hk w' hw => by
    have hkI : (k : Int) < oR n m C f0 o := by omega
    have hk0 : (0 : Int) ≤ k := by omega
    obtain ⟨φk, J, B, _, hq⟩ := hRnd k (by omega)
    obtain ⟨_, ⟨h2, e2, c2⟩, e3⟩ := hq hk
    rw [e3]
    have ho2 : objP (atT n (mvd n m C (ygB (y 1) (y 2)) thr (scnK n m C (ygB (y 1) (y 2)) thr s (fm φ o) r k) (scnX s (fm φ o) k)).1.f m C (fm φ o)) = _ := objP_same (by rw [e2]; exact fun q => c2 q.2)
    exact setref_yes ba bw n _ bt A m cap C w' hw (fm φ o) k _ (slE_zero.2 (by rw [ho2, e2]; exact ⟨rfl, hk0, hkI⟩)))
  have HEq := Lib.hid (show ∀ k, k < r → (scnK n m C (ygB (y 1) (y 2)) thr s (fm φ o) r (k + 1)).tt = (mvd n m C (ygB (y 1) (y 2)) thr (scnK n m C (ygB (y 1) (y 2)) thr s (fm φ o) r k) (scnX s (fm φ o) k)).1.tt ∧ (scnK n m C (ygB (y 1) (y 2)) thr s (fm φ o) r (k + 1)).od = (mvd n m C (ygB (y 1) (y 2)) thr (scnK n m C (ygB (y 1) (y 2)) thr s (fm φ o) r k) (scnX s (fm φ o) k)).1.od from fun k hk => by
    obtain ⟨φk, J, B, _, hq⟩ := hRnd k (by omega)
    rw [(hq hk).2.2]
    exact ⟨rfl, rfl⟩)
  have hend : ∃ K, (scn n m C (ygB (y 1) (y 2)) thr s (fm φ o)).2 = fm φ o + K ∧ 0 ≤ K ∧ K ≤ 4096 ∧ (scn n m C (ygB (y 1) (y 2)) thr s (fm φ o)).1 = scnK n m C (ygB (y 1) (y 2)) thr s (fm φ o) r r ∧
      (atT n (scnK n m C (ygB (y 1) (y 2)) thr s (fm φ o) r r).f m C (fm φ o)).1.words = K := by
    obtain ⟨φk, J, B, ⟨h2, e2, c2⟩, hq⟩ := hRnd r (Nat.le_refl _)
    have e1 : (scn n m C (ygB (y 1) (y 2)) thr s (fm φ o)).1 = scnK n m C (ygB (y 1) (y 2)) thr s (fm φ o) r r := by
      unfold scn scnK
      rw [hat]
      dsimp only
      rw [hr, List.take_of_length_le (by unfold rfs; simp)]
    refine ⟨oK n m C f0 o, ?_, by omega, by omega, e1, by rw [e2]⟩
    have e3 : (scn n m C (ygB (y 1) (y 2)) thr s (fm φ o)).2 = fm φ o + (atT n (scn n m C (ygB (y 1) (y 2)) thr s (fm φ o)).1.f m C (fm φ o)).1.words := rfl
    rw [e3, e1, e2]
  obtain ⟨K, q1, q2, q3, q4, q5⟩ := hend
  unfold MvOut
  rw [q1, q4]
  have hpn : fm φ o ≤ 4096 := by
    have := (at_ok h.st.tb.ok (show (atT n s.f m C (fm φ o)).2 = 0 by rw [hat])).2.2.1
    rw [hat] at this
    dsimp only at this
    omega
  have h0 : scnK n m C (ygB (y 1) (y 2)) thr s (fm φ o) r 0 = s := by unfold scnK; rw [List.take_zero]; rfl
  have HXg := Lib.hid (show ∀ k, k < r → (rfs s.f (fm φ o) r).getD k 0 = scnX s (fm φ o) k from fun k hk => rfs_get hk)
  have hlenr : (rfs s.f (fm φ o) r).length = r := by unfold rfs; simp
  clear hRnd q1 q4 hrf hobj hat hhc hc hk4 V G I Ac hcl hs ho hYD hO0
  obtain ⟨SK, hSK⟩ : ∃ SK : Nat → Sc, SK = scnK n m C (ygB (y 1) (y 2)) thr s (fm φ o) r := ⟨_, rfl⟩
  obtain ⟨X, hX⟩ : ∃ X : Nat → Int, X = scnX s (fm φ o) := ⟨_, rfl⟩
  rw [← hSK] at h0 q5 ⊢
  obtain ⟨MV, hMV⟩ : ∃ MV : Nat → Sc × Int, MV = fun k => mvd n m C (ygB (y 1) (y 2)) thr (SK k) (X k) := ⟨_, rfl⟩
  have HMv2 := Lib.hid (show ∀ k, k < r → ∀ w', Rn w' ba bw n (SK k).f bt A m cap C rb y thr (SK k).tt (SK k).od olds all → Calls Try.prog 25 #[.pointer (some ⟨rb, 0, none⟩), .int .i64 (X k)] w' fun e w2 => e = .returned (.int .i64 (MV k).2) ∧ Rn w2 ba bw n (MV k).1.f bt A m cap C rb y thr (MV k).1.tt (MV k).1.od olds all ∧ Touch (fun k => k = rb ∨ k = bw) w' w2 from by subst hMV; subst hSK; subst hX; exact HMv.out)
  have HSr2 := Lib.hid (show ∀ k, k < r → ∀ w', St w' ba bw n (MV k).1.f bt A m cap C → Calls Try.prog 18 #[.agg #[.pointer (some ⟨ba, 0, none⟩), .pointer (some ⟨bt, 0, none⟩)], .int .i64 (fm φ o), .int .i64 k, .int .i64 (MV k).2] w' fun e w2 => e = .returned (.int .i64 0) ∧ St w2 ba bw n (SK (k + 1)).f bt A m cap C ∧ Only bw w' w2 from by subst hMV; subst hSK; subst hX; exact HSr.out)
  have HEq2 := Lib.hid (show ∀ k, k < r → (SK (k + 1)).tt = (MV k).1.tt ∧ (SK (k + 1)).od = (MV k).1.od from by subst hMV; subst hSK; subst hX; exact HEq.out)
  have HXg2 := Lib.hid (show ∀ k, k < r → (rfs s.f (fm φ o) r).getD k 0 = X k from by subst hX; exact HXg.out)
  clear HMv HSr HEq HXg
  have HXg := HXg2
  have HMv := HMv2
  have HSr := HSr2
  have HEq := HEq2
  clear HMv2 HSr2 HEq2 HXg2 hMV hSK hX
  have R0 : Rn w ba bw n (SK 0).f bt A m cap C rb y thr (SK 0).tt (SK 0).od olds all := by rw [h0]; exact h
  have n1 := h.ne.2.1
  have HNe := Lib.hid h.ne
  have hrl := h.blk.lt
  have hbl := h.st.ar.lt2
  have HSz := Lib.hid (show ∀ w', St w' ba bw n (SK r).f bt A m cap C → Calls Try.prog 58 #[.agg #[.pointer (some ⟨ba, 0, none⟩), .pointer (some ⟨bt, 0, none⟩)], .int .i64 (fm φ o)] w' fun e w2 => (∃ b x, e = .returned (.tuple #[.int .i64 K, .bool b, .int .i64 x])) ∧ Keeps w' w2 from fun w' q => by
    have := size_any ba bw n (SK r).f bt A m cap C w' q (fm φ o)
    rw [q5] at this
    exact this.mono (fun e w2 hh => ⟨⟨_, _, hh.1⟩, hh.2⟩))
  have gK : IntKind.i64.wrap (fm φ o + K) = fm φ o + K := IntWalk.i64_in _ ⟨by omega, by omega⟩
  clear h h0 q5
  generalize fm φ o = p at *
  generalize hll : rfs s.f p r = l at *
  clear hll
  have HR0 := Lib.hid R0
  clear R0
  go_enter Try.func26, Try.ntmps26
  go_wp2_with fail
  refine Calls.mono HRf.out ?_
  rintro e w1 ⟨v, rfl, hown, k1⟩
  obtain ⟨ad, cp, hv⟩ := hown.form
  subst hv
  have hrd0 := hown.rd
  rw [hlenr] at hrd0 ⊢
  obtain ⟨hrd, hadb⟩ := hrd0
  have hrd2 : Rd w1 ad r (intF .i64 X) := hrd.congr (fun j hj => congrArg (Value.int .i64) (HXg.out j hj))
  have HRd := Lib.hid hrd2
  have HAd := Lib.hid hadb
  have HR1 := Lib.hid (HR0.out.keep k1)
  have z1 := k1.size
  have K1 : Touch (fun k => k = rb ∨ k = bw) w w1 := k1.mono (fun _ e _ => e.elim)
  clear hrd hadb hrd2 hown hlenr HR0 HXg
  go_wp2_with fail
  go_loopw [14] (fun i wr => ∃ k : Nat, k ≤ r ∧ i = .int .i64 k ∧ Rn wr ba bw n (SK k).f bt A m cap C rb y thr (SK k).tt (SK k).od olds all ∧ Touch (fun k => k = rb ∨ k = bw) w1 wr) (fun i _ => r - (intOf i).toNat)
  case atStart => exact ⟨0, Nat.zero_le _, rfl, HR1.out, Touch.refl _ _⟩
  case round =>
    obtain ⟨wo, rfl⟩ : ∃ wo : World, wo = wr := ⟨_, rfl⟩
    obtain ⟨k, hk, rfl, hRn, T1⟩ := hrel
    have HRn := Lib.hid hRn
    clear hRn
    by_cases hlt : k < r
    · obtain ⟨b, off, rfl, e0⟩ := (HRd.out.keepS T1 (fun b off e q => by have := (HAd.out b off e).1; omega)).one hlt
      have e1 : wo.cell? ⟨b, off + k, none⟩ = some (.int .i64 (X k)) := e0
      have d1 := HRn.out.blk.c 1 _ rfl
      have d2 := HRn.out.blk.c 2 _ rfl
      have hkI : (k : Int) < r := by omega
      clear e0
      go_wp2_with fail
      refine wp_region_noPanic ?_
      refine wp_region_held_drew (S := (fun w' => w'.cell? ⟨rb, 1, none⟩ = some (.pointer (some ⟨ba, 0, none⟩)) ∧ w'.cell? ⟨rb, 2, none⟩ = some (.pointer (some ⟨bt, 0, none⟩)))) (by kernel_rfl) ⟨d1, d2⟩ (fun hHeld => ?_)
      refine' wpAnyH_take (i := 0) ?hi0_1 ?hs0_1 ?hf0_1 ?hr0_1 ?hQ0_1 ?hy0_1 (by assumption) ?rest0_1
      case hi0_1 => simp only [List.getElem?_toArray, List.getElem?_cons_zero] <;> rfl
      case hs0_1 => kernel_rfl
      case hf0_1 => kernel_rfl
      case hr0_1 => kernel_rfl
      case hQ0_1 => exact fun _ _ _ h => h
      case hy0_1 => exact Or.inl ⟨by rfl, fun w hSw => by have q1 := hSw.1; have q2 := hSw.2; go_simp <;> (try with_reducible rfl)⟩
      simp only [Act.put, List.setIfInBounds_toArray, List.set_cons_zero, List.set_cons_succ]
      refine' wpAnyH_take (i := 1) ?hi1_1 ?hs1_1 ?hf1_1 ?hr1_1 ?hQ1_1 ?hy1_1 (by assumption) ?rest1_1
      case hi1_1 => simp only [List.getElem?_toArray, List.getElem?_cons_succ, List.getElem?_cons_zero] <;> rfl
      case hs1_1 => kernel_rfl
      case hf1_1 => kernel_rfl
      case hr1_1 => kernel_rfl
      case hQ1_1 => exact fun _ _ _ h => h
      case hy1_1 => exact Or.inl ⟨by rfl, fun w hSw => by have q1 := hSw.1; have q2 := hSw.2; go_simp <;> (try with_reducible rfl)⟩
      simp only [Act.put, List.setIfInBounds_toArray, List.set_cons_zero, List.set_cons_succ]
      refine' wpAnyH_take (i := 2) ?hi2_1 ?hs2_1 ?hf2_1 ?hr2_1 ?hQ2_1 ?hy2_1 (by assumption) ?rest2_1
      case hi2_1 => simp only [List.getElem?_toArray, List.getElem?_cons_succ, List.getElem?_cons_zero] <;> rfl
      case hs2_1 => kernel_rfl
      case hf2_1 => kernel_rfl
      case hr2_1 => kernel_rfl
      case hQ2_1 => exact fun _ _ _ h => h
      case hy2_1 => exact Or.inl ⟨by rfl, fun w hSw => by have q1 := hSw.1; have q2 := hSw.2; go_simp <;> (try with_reducible rfl)⟩
      simp only [Act.put, List.setIfInBounds_toArray, List.set_cons_zero, List.set_cons_succ]
      refine' wpAnyH_take (i := 3) ?hi3_1 ?hs3_1 ?hf3_1 ?hr3_1 ?hQ3_1 ?hy3_1 (by assumption) ?rest3_1
      case hi3_1 => simp only [List.getElem?_toArray, List.getElem?_cons_succ, List.getElem?_cons_zero] <;> rfl
      case hs3_1 => kernel_rfl
      case hf3_1 => kernel_rfl
      case hr3_1 => kernel_rfl
      case hQ3_1 => exact fun _ _ _ h => h
      case hy3_1 => exact Or.inl ⟨by rfl, fun w hSw => by have q1 := hSw.1; have q2 := hSw.2; go_simp <;> (try with_reducible rfl)⟩
      simp only [Act.put, List.setIfInBounds_toArray, List.set_cons_zero, List.set_cons_succ]
      refine' wpAnyH_take (i := 4) ?hi4_1 ?hs4_1 ?hf4_1 ?hr4_1 ?hQ4_1 ?hy4_1 (by assumption) ?rest4_1
      case hi4_1 => simp only [List.getElem?_toArray, List.getElem?_cons_succ, List.getElem?_cons_zero] <;> rfl
      case hs4_1 => kernel_rfl
      case hf4_1 => kernel_rfl
      case hr4_1 => kernel_rfl
      case hQ4_1 => exact fun _ _ _ h => h
      case hy4_1 => exact Or.inl ⟨by rfl, fun w hSw => by have q1 := hSw.1; have q2 := hSw.2; go_simp <;> (try with_reducible rfl)⟩
      simp only [Act.put, List.setIfInBounds_toArray, List.set_cons_zero, List.set_cons_succ]
      refine' wpAnyH_take (i := 5) ?hi5_1 ?hs5_1 ?hf5_1 ?hr5_1 ?hQ5_1 ?hy5_1 (by assumption) ?rest5_1
      case hi5_1 => simp only [List.getElem?_toArray, List.getElem?_cons_succ, List.getElem?_cons_zero] <;> rfl
      case hs5_1 => kernel_rfl
      case hf5_1 => kernel_rfl
      case hr5_1 => kernel_rfl
      case hQ5_1 => exact fun _ _ _ h => h
      case hy5_1 => exact Or.inl ⟨by rfl, fun w hSw => by have q1 := hSw.1; have q2 := hSw.2; go_simp <;> (try with_reducible rfl)⟩
      simp only [Act.put, List.setIfInBounds_toArray, List.set_cons_zero, List.set_cons_succ]
      refine' wpAnyH_take (i := 6) ?hi6_1 ?hs6_1 ?hf6_1 ?hr6_1 ?hQ6_1 ?hy6_1 (by assumption) ?rest6_1
      case hi6_1 => simp only [List.getElem?_toArray, List.getElem?_cons_succ, List.getElem?_cons_zero] <;> rfl
      case hs6_1 => kernel_rfl
      case hf6_1 => kernel_rfl
      case hr6_1 => kernel_rfl
      case hQ6_1 => exact fun _ _ _ h => h
      case hy6_1 => exact Or.inl ⟨by rfl, fun w hSw => by have q1 := hSw.1; have q2 := hSw.2; go_simp <;> (try with_reducible rfl)⟩
      simp only [Act.put, List.setIfInBounds_toArray, List.set_cons_zero, List.set_cons_succ]
      refine' wpAnyH_take (i := 7) ?hi7_1 ?hs7_1 ?hf7_1 ?hr7_1 ?hQ7_1 ?hy7_1 (by assumption) ?rest7_1
      case hi7_1 => simp only [List.getElem?_toArray, List.getElem?_cons_succ, List.getElem?_cons_zero] <;> rfl
      case hs7_1 => kernel_rfl
      case hf7_1 => kernel_rfl
      case hr7_1 => kernel_rfl
      case hQ7_1 => exact fun _ _ _ h => h
      case hy7_1 => exact Or.inl ⟨by rfl, fun w hSw => by have q1 := hSw.1; have q2 := hSw.2; go_simp <;> (try with_reducible rfl)⟩
      simp only [Act.put, List.setIfInBounds_toArray, List.set_cons_zero, List.set_cons_succ]
      refine wpAnyH_ready (rs := [8]) (by kernel_rfl) (by simp) ?_
      refine AllReadyH.cons rfl (fun K hK => ?_) AllReadyH.nil
      go_simp
      with_reducible refine Calls.mono (HMv.out k hlt _ (HRn.out.keep (Touch.drew (Touch.refl (fun _ => False) wo)))) ?_
      rintro e w5 ⟨rfl, R5, t5⟩
      go_wp2_with fail
      refine hK.out _ _ ⟨R5.blk.c 1 _ rfl, R5.blk.c 2 _ rfl⟩ (fun hHeld => ?_)
      clear hK K
      refine wpAnyH_ready (rs := [9]) (by kernel_rfl) (by simp) ?_
      refine AllReadyH.cons rfl (fun K hK => ?_) AllReadyH.nil
      go_simp
      with_reducible refine Calls.mono (HSr.out k hlt _ R5.st) ?_
      rintro e w6 ⟨rfl, S6, o6⟩
      go_wp2_with fail
      refine hK.out _ _ ⟨cell_only hHeld.1 o6 (by show rb ≠ bw; omega), cell_only hHeld.2 o6 (by show rb ≠ bw; omega)⟩ (fun hHeld => ?_)
      clear hK K
      refine wpAnyH_done (by kernel_rfl) ?_ _
      refine NoPanic.normal ?_
      go_wp2_with fail
      go_roundw
      case rel => exact ⟨k + 1, by omega, by go_num, ⟨S6, by
        have hb := R5.blk.touch o6 (show ¬ rb = bw from n1)
        rw [(HEq.out k hlt).1, (HEq.out k hlt).2]
        exact hb, HNe.out⟩, Touch.trans T1 (Touch.trans (Touch.trans (Touch.drew (Touch.refl _ wo)) t5 (fun _ e _ => e)) o6 (fun _ e _ => .inr e)) (fun _ e _ => e)⟩
      case measure => simp [intOf]; omega
    · have he : k = r := by omega
      subst he
      have d1 := HRn.out.blk.c 1 _ rfl
      have d2 := HRn.out.blk.c 2 _ rfl
      go_wp2_with fail
      refine Calls.mono (HSz.out _ HRn.out.st) ?_
      rintro e w5 ⟨⟨b, x, rfl⟩, k5⟩
      go_wp2_with fail
      go_ret
      exact ⟨rfl, HRn.out.keep k5, Touch.trans (Touch.trans K1 T1 (fun _ e _ => e)) k5 (fun _ e _ => e.elim)⟩
end

end Go.Proofs.Ytabfbgkablbeeaa
