/- Layer 15, scavenge: move. -/
import Derived.Test.YtabfbgkablbeeaaG24
import Derived.Test.YtabfbgkablbeeaaG25
import Derived.BigQuiet
set_option linter.all false

namespace Go.Proofs.Ytabfbgkablbeeaa
open Go.RowKit

def rnL (ba bt : Nat) (y : Nat → Sp) (thr : Int) (tt od : Sp) (olds all : Value) : List Value :=
  [.pointer (some ⟨ba, 0, none⟩), .pointer (some ⟨ba, 0, none⟩), .pointer (some ⟨bt, 0, none⟩), .int .i64 (y 0).f, .int .i64 (y 0).t, .int .i64 (y 0).e, .int .i64 (y 1).f, .int .i64 (y 1).t, .int .i64 (y 1).e, .int .i64 (y 2).f, .int .i64 (y 2).t, .int .i64 (y 2).e, .int .i64 (y 3).f, .int .i64 (y 3).t, .int .i64 (y 3).e, .int .i64 thr, .int .i64 tt.f, .int .i64 tt.t, .int .i64 tt.e, .int .i64 od.f, .int .i64 od.t, .int .i64 od.e, olds, all]
/-- A run that goes on: its block, the memory, what is taken of To and of Old. -/
structure Rn (w : World) (ba bw n : Nat) (f : Nat → Int) (bt : Nat) (A : Option Addr) (m cap : Nat) (C : Nat → Cl) (rb : Nat) (y : Nat → Sp) (thr : Int) (tt od : Sp) (olds all : Value) : Prop where
  st : St w ba bw n f bt A m cap C
  blk : BL w rb 70 (rnL ba bt y thr tt od olds all)
  ne : rb ≠ ba ∧ rb ≠ bw ∧ rb ≠ bt ∧ ∀ b off, A = some ⟨b, off, none⟩ → b ≠ rb
theorem Rn.keep {w w' : World} {ba bw n : Nat} {f : Nat → Int} {bt : Nat} {A : Option Addr} {m cap : Nat} {C : Nat → Cl} {rb : Nat} {y : Nat → Sp} {thr : Int} {tt od : Sp} {olds all : Value} (h : Rn w ba bw n f bt A m cap C rb y thr tt od olds all) (k : Keeps w w') : Rn w' ba bw n f bt A m cap C rb y thr tt od olds all := ⟨h.st.keep k, h.blk.keep k, h.ne⟩
theorem Rn.ygc {w : World} {ba bw n : Nat} {f : Nat → Int} {bt : Nat} {A : Option Addr} {m cap : Nat} {C : Nat → Cl} {rb : Nat} {y : Nat → Sp} {thr : Int} {tt od : Sp} {olds all : Value} (h : Rn w ba bw n f bt A m cap C rb y thr tt od olds all) : YgC w rb (y 1) (y 2) := ⟨h.blk.c 6 _ rfl, h.blk.c 7 _ rfl, h.blk.c 8 _ rfl, h.blk.c 9 _ rfl, h.blk.c 10 _ rfl, h.blk.c 11 _ rfl⟩
theorem move_at (ba bw n : Nat) (f : Nat → Int) (w : World) (h : Ar w ba bw n f) (d s k : Int) (h1 : 0 ≤ d) (h2 : 0 ≤ s) (h0 : 0 < k) (hd : d + k ≤ n) (hs : s + k ≤ n) :
    Calls Try.prog 61 #[.pointer (some ⟨ba, 0, none⟩), .int .i64 d, .int .i64 s, .int .i64 k] w fun e w' => e = .returned (.int .i64 0) ∧ Ar w' ba bw n (moveF f d s k) ∧ Only bw w w' := by
  obtain ⟨d, rfl⟩ := Int.eq_ofNat_of_zero_le h1
  obtain ⟨s, rfl⟩ := Int.eq_ofNat_of_zero_le h2
  obtain ⟨k, rfl⟩ := Int.eq_ofNat_of_zero_le (show 0 ≤ k by omega)
  exact move_yes ba bw n f w h d s k (by omega) (by omega) (by omega)
/-- The same object's words at another place. -/
theorem atM_copy {n m : Nat} {f g : Nat → Int} {C : Nat → Cl} {a p : Int} {h : Hd} {r d k : Int} (hc : h.cls ≠ 0) (e : atT n f m C a = (⟨h, r, d, k⟩, 0)) (hp1 : 1 ≤ p) (hpk : p + k ≤ n) (hk2 : 2 ≤ k) (h1 : g p.toNat = f a.toNat) (h2 : g (p + 1).toNat = f (a + 1).toNat) : atT n g m C p = (⟨h, r, d, k⟩, 0) := by
  have h0 : (atT n f m C a).2 = 0 := by rw [e]
  obtain ⟨hT, hok, hcs⟩ := at_cases h0
  rcases hcs with ⟨q1, _, q3⟩ | ⟨q1, _, _, _, _, q3⟩ | ⟨q1, q2, q3, q4, q5⟩
  · rw [e] at q3; injection q3 with q3; injection q3 with q3; rw [q3] at hc; exact absurd q1 hc
  · rw [e] at q3; injection q3 with q3; injection q3 with q3; rw [q3] at hc; exact absurd q1 hc
  · rw [e] at q5
    injection q5 with q5
    injection q5 with e1 e2 e3 e4
    have hraw : rawH (g p.toNat) = h := by rw [h1, e1]
    rw [e4] at hpk hk2
    rw [e2, e3, e4]
    have e0 : h.cls = (rawH (f a.toNat)).cls := by rw [e1]
    refine atT_obj (thB_true.2 ⟨hp1, by omega, by omega, by omega⟩) (by rw [h1]; exact hok) hraw hc (by omega) h2 (by rw [e0]; exact q3) (by rw [e0]) (by rw [e0]) (thB_true.2 ⟨hp1, by omega, by omega, by omega⟩)
theorem move_mid {n m : Nat} {f : Nat → Int} {C : Nat → Cl} {a b : Int} {h : Hd} {r d k : Int} (e : atT n f m C a = (⟨h, r, d, k⟩, 0)) (hc : h.cls ≠ 0) (hk2 : 2 ≤ k) (ha : 1 ≤ a) (hb1 : 1 ≤ b) (hbn : b + k ≤ n) (hsep : b + k ≤ a ∨ a + k ≤ b) :
    atT n (moveF f b a k) m C b = (⟨h, r, d, k⟩, 0) ∧ ∀ h1 : Hd, h1.ok → h1.cls = h.cls → atT n (putF (moveF f b a k) b.toNat (hdW h1)) m C a = (⟨h, r, d, k⟩, 0) := by
  refine ⟨atM_copy hc e hb1 hbn hk2 (by rw [moveF_in (by omega)]; congr 1; omega) (by rw [moveF_in (by omega)]; congr 1; omega), fun h1 _ _ => ?_⟩
  rw [← e]
  exact atT_two (by rw [putF_ne (by omega), moveF_out (by omega)]) (by rw [putF_ne (by omega), moveF_out (by omega)])

set_option maxRecDepth 100000 in
set_option maxHeartbeats 2000000 in
theorem move_to {w : World} {ba bw n : Nat} {f : Nat → Int} {bt : Nat} {A : Option Addr} {m cap : Nat} {C : Nat → Cl} {rb : Nat} {y : Nat → Sp} {thr : Int} {tt od : Sp} {olds all : Value} (h : Rn w ba bw n f bt A m cap C rb y thr tt od olds all) (hm : 0 < m)
    {a c ag r d k : Int} {mk fi dn : Bool} (hat : atT n f m C a = (⟨⟨c, ag, 0, mk, fi, dn⟩, r, d, k⟩, 0)) (hc : c ≠ 0) (hok : (⟨c, ag, 0, mk, fi, dn⟩ : Hd).ok) (hk : 2 ≤ k) (hyg : ygB (y 1) (y 2) a = true) (ha : 1 ≤ a) (han : a + k ≤ n)
    (hb : 1 ≤ tt.t) (hbn : tt.t + k ≤ n) (hb4 : tt.t < 4096) (hsep : tt.t + k ≤ a ∨ a + k ≤ tt.t) (ht : rightB tt = true) (ho : rightB od = true) (hle : k ≤ tt.e - tt.t) (hag : ag < thr) :
    Calls Try.prog 25 #[.pointer (some ⟨rb, 0, none⟩), .int .i64 a] w fun e w' => e = .returned (.int .i64 tt.t) ∧
      Rn w' ba bw n (mvF f a tt.t k (olderH ⟨c, ag, 0, false, fi, dn⟩) (fwdH ⟨c, ag, 0, mk, fi, dn⟩ tt.t)) bt A m cap C rb y thr { tt with t := tt.t + k } od olds all ∧ Touch (fun k => k = rb ∨ k = bw) w w' := by
  have S0 := h.st
  have hR := h.blk
  have HR_ := Lib.hid h.ne
  have n1 := h.ne.2.1
  have hrl := h.blk.lt
  have hbl := S0.ar.lt2
  have HN := Lib.hid (S0.lows hm)
  have hz : (a == 0) = false := by simp; omega
  have HYc := Lib.hid (show YgC w rb (y 1) (y 2) from ⟨hR.c 6 _ rfl, hR.c 7 _ rfl, hR.c 8 _ rfl, hR.c 9 _ rfl, hR.c 10 _ rfl, hR.c 11 _ rfl⟩)
  have HY := Lib.hid (show ∀ w', YgC w' rb (y 1) (y 2) → Calls Try.prog 57 #[.pointer (some ⟨rb, 0, none⟩), .int .i64 a] w' fun e w2 => e = .returned (.bool true) ∧ Keeps w' w2 from fun w' q => by rw [← hyg]; exact young_any rb (y 1) (y 2) a w' q)
  have hobj : objP (atT n f m C a) = (⟨⟨c, ag, 0, mk, fi, dn⟩, r, d, k⟩, 0) := by rw [objP_same (by rw [hat]; exact fun q => hc q.2)]; exact hat
  have HHd := Lib.hid (show ∀ w', St w' ba bw n f bt A m cap C → Calls Try.prog 41 #[.agg #[.pointer (some ⟨ba, 0, none⟩), .pointer (some ⟨bt, 0, none⟩)], .int .i64 a] w' fun e w2 => e = .returned (.tuple #[.agg #[.int .i64 c, .int .i64 ag, .int .i64 0, .bool mk, .bool fi, .bool dn], .int .i64 0]) ∧ Keeps w' w2 from fun w' q => by
    have := ohead_any ba bw n f bt A m cap C w' q a
    rw [hobj] at this
    exact this)
  have HSz := Lib.hid (show ∀ w', St w' ba bw n f bt A m cap C → Calls Try.prog 58 #[.agg #[.pointer (some ⟨ba, 0, none⟩), .pointer (some ⟨bt, 0, none⟩)], .int .i64 a] w' fun e w2 => e = .returned (.tuple #[.int .i64 k, .bool (c != 0), .int .i64 0]) ∧ Keeps w' w2 from fun w' q => by
    have := size_any ba bw n f bt A m cap C w' q a
    rw [hat] at this
    exact this)
  have HT := Lib.hid (show ∀ w', Calls Try.prog 59 #[.agg #[.int .i64 tt.f, .int .i64 tt.t, .int .i64 tt.e], .int .i64 k] w' fun e w2 => e = .returned (.tuple #[.int .i64 tt.t, .agg #[.int .i64 tt.f, .int .i64 (tt.t + k), .int .i64 tt.e], .int .i64 0]) ∧ Keeps w' w2 from fun w' => by
    have := take_any tt k w' ht (by omega)
    rw [if_neg (by omega)] at this
    exact this)
  obtain ⟨ag2, hag2⟩ : ∃ z, z = (if ag + 1 ≤ 7 then ag + 1 else 7) := ⟨_, rfl⟩
  have HOl := Lib.hid (show ∀ w', Calls Try.prog 60 #[.agg #[.int .i64 c, .int .i64 ag, .int .i64 0, .bool false, .bool fi, .bool dn]] w' fun e w2 => e = .returned (.agg #[.int .i64 c, .int .i64 ag2, .int .i64 0, .bool false, .bool fi, .bool dn]) ∧ Keeps w' w2 from fun w' => by
    rw [hag2]; exact older_any ⟨c, ag, 0, false, fi, dn⟩ (unm_ok hok) w')
  have HMv := Lib.hid (fun w' (q : Ar w' ba bw n f) => move_at ba bw n f w' q tt.t a k (by omega) (by omega) (by omega) hbn han)
  have hk1 : (⟨c, ag2, 0, false, fi, dn⟩ : Hd).ok := by rw [hag2]; exact olderH_ok (unm_ok hok)
  obtain ⟨m1, m2⟩ := move_mid hat hc hk ha hb hbn hsep
  have m3 := m2 ⟨c, ag2, 0, false, fi, dn⟩ hk1 rfl
  have HS1 := Lib.hid (show ∀ w', St w' ba bw n (moveF f tt.t a k) bt A m cap C → Calls Try.prog 42 #[.agg #[.pointer (some ⟨ba, 0, none⟩), .pointer (some ⟨bt, 0, none⟩)], .int .i64 tt.t, .agg #[.int .i64 c, .int .i64 ag2, .int .i64 0, .bool false, .bool fi, .bool dn]] w' fun e w2 => e = .returned (.int .i64 0) ∧ St w2 ba bw n (putF (moveF f tt.t a k) (tt.t).toNat (hdW ⟨c, ag2, 0, false, fi, dn⟩)) bt A m cap C ∧ Only bw w' w2 from fun w' q =>
    sethead_yes ba bw n _ bt A m cap C w' q tt.t ⟨c, ag2, 0, false, fi, dn⟩ (by rw [objP_same (by rw [m1]; exact fun q => hc q.2), m1]) hk1 (by rw [objP_same (by rw [m1]; exact fun q => hc q.2), m1]))
  have HS2 := Lib.hid (show ∀ w', St w' ba bw n (putF (moveF f tt.t a k) (tt.t).toNat (hdW ⟨c, ag2, 0, false, fi, dn⟩)) bt A m cap C → Calls Try.prog 42 #[.agg #[.pointer (some ⟨ba, 0, none⟩), .pointer (some ⟨bt, 0, none⟩)], .int .i64 a, .agg #[.int .i64 c, .int .i64 ag, .int .i64 tt.t, .bool false, .bool fi, .bool dn]] w' fun e w2 => e = .returned (.int .i64 0) ∧ St w2 ba bw n (mvF f a tt.t k (olderH ⟨c, ag, 0, false, fi, dn⟩) (fwdH ⟨c, ag, 0, mk, fi, dn⟩ tt.t)) bt A m cap C ∧ Only bw w' w2 from fun w' q => by
    have e : ((olderH ⟨c, ag, 0, false, fi, dn⟩) : Hd) = ⟨c, ag2, 0, false, fi, dn⟩ := by rw [hag2]; rfl
    rw [e]
    exact sethead_yes ba bw n _ bt A m cap C w' q a (fwdH ⟨c, ag, 0, mk, fi, dn⟩ tt.t) (by rw [objP_same (by rw [m3]; exact fun q => hc q.2), m3]) (fwdH_ok hok (by omega) hb4) (by rw [objP_same (by rw [m3]; exact fun q => hc q.2), m3]; rfl))
  have K0 := Touch.refl (fun k => k = rb ∨ k = bw) w
  have hg : decide (thr ≤ ag) = false := decide_eq_false (by omega)
  clear hag
  clear h hat hok hk1 m1 m2 m3 hobj hag2 hyg hsep ht ho hc
  unfold rnL at hR
  have l1 := hR.lt
  have c2 : w.cell? ⟨rb, 1, none⟩ = some (.pointer (some ⟨ba, 0, none⟩)) := hR.c 1 _ rfl
  have c3 : w.cell? ⟨rb, 2, none⟩ = some (.pointer (some ⟨bt, 0, none⟩)) := hR.c 2 _ rfl
  have c4 : w.cell? ⟨rb, 6, none⟩ = some (.int .i64 (y 1).f) := hR.c 6 _ rfl
  have c5 : w.cell? ⟨rb, 7, none⟩ = some (.int .i64 (y 1).t) := hR.c 7 _ rfl
  have c6 : w.cell? ⟨rb, 8, none⟩ = some (.int .i64 (y 1).e) := hR.c 8 _ rfl
  have c7 : w.cell? ⟨rb, 9, none⟩ = some (.int .i64 (y 2).f) := hR.c 9 _ rfl
  have c8 : w.cell? ⟨rb, 10, none⟩ = some (.int .i64 (y 2).t) := hR.c 10 _ rfl
  have c9 : w.cell? ⟨rb, 11, none⟩ = some (.int .i64 (y 2).e) := hR.c 11 _ rfl
  go_enter Try.func25, Try.ntmps25
  go_wp2_with fail
  refine Calls.mono (HY.out _ HYc.out) ?_
  rintro e w10 ⟨rfl, kw10⟩
  have Kw10 := Touch.trans K0 kw10 (fun _ e _ => e.elim)
  have Bw10_RB := BL.keep hR kw10
  have zw10 := kw10.size
  have Sw10 := St.keep S0 kw10
  clear l1 c2 c3 c4 c5 c6 c7 c8 c9 S0 hR K0 kw10
  have l11 := Bw10_RB.lt
  have c12 : w10.cell? ⟨rb, 1, none⟩ = some (.pointer (some ⟨ba, 0, none⟩)) := Bw10_RB.c 1 _ rfl
  have c13 : w10.cell? ⟨rb, 2, none⟩ = some (.pointer (some ⟨bt, 0, none⟩)) := Bw10_RB.c 2 _ rfl
  go_wp2_with fail
  refine Calls.mono (HHd.out _ Sw10) ?_
  rintro e w14 ⟨rfl, kw14⟩
  have Kw14 := Touch.trans Kw10 kw14 (fun _ e _ => e.elim)
  have Bw14_RB := BL.keep Bw10_RB kw14
  have zw14 := kw14.size
  have Sw14 := St.keep Sw10 kw14
  clear l11 c12 c13 Sw10 Bw10_RB Kw10 kw14
  have l15 := Bw14_RB.lt
  have c16 : w14.cell? ⟨rb, 1, none⟩ = some (.pointer (some ⟨ba, 0, none⟩)) := Bw14_RB.c 1 _ rfl
  have c17 : w14.cell? ⟨rb, 2, none⟩ = some (.pointer (some ⟨bt, 0, none⟩)) := Bw14_RB.c 2 _ rfl
  go_wp2_with fail
  refine named (fun W18 hW18 => ?_)
  have KW18 : Touch (fun k => k = rb ∨ k = bw) w W18 := by rw [hW18]; exact (Kw14.alloc _)
  have BW18_RB : BL W18 (rb) 70 [.pointer (some ⟨ba, 0, none⟩), .pointer (some ⟨ba, 0, none⟩), .pointer (some ⟨bt, 0, none⟩), .int .i64 (y 0).f, .int .i64 (y 0).t, .int .i64 (y 0).e, .int .i64 (y 1).f, .int .i64 (y 1).t, .int .i64 (y 1).e, .int .i64 (y 2).f, .int .i64 (y 2).t, .int .i64 (y 2).e, .int .i64 (y 3).f, .int .i64 (y 3).t, .int .i64 (y 3).e, .int .i64 thr, .int .i64 tt.f, .int .i64 tt.t, .int .i64 tt.e, .int .i64 od.f, .int .i64 od.t, .int .i64 od.e, olds, all] := by rw [hW18]; exact (BL.alloc Bw14_RB _)
  have BW18_H : BL W18 (w14.heap.size) 96 [.int .i64 c, .int .i64 ag, .int .i64 0, .bool mk, .bool fi, .bool dn] := by rw [hW18]; exact (BL.new1 _ _ _ [.int .i64 c, .int .i64 ag, .int .i64 0, .bool mk, .bool fi, .bool dn] _ (by simp) rfl)
  have zW18 : w14.heap.size + 1 ≤ W18.heap.size := by rw [hW18]; simp
  have SW18 := St.aside Sw14 (show Touch (fun k => w.heap.size ≤ k ∨ k = rb) w14 W18 by rw [hW18]; exact ((Touch.refl _ w14).alloc _)) HN.out HR_.out
  clear l15 c16 c17 Sw14 Bw14_RB Kw14 hW18
  have l19 := BW18_RB.lt
  have l20 := BW18_H.lt
  refine Calls.mono (HSz.out _ SW18) ?_
  rintro e w21 ⟨rfl, kw21⟩
  have Kw21 := Touch.trans KW18 kw21 (fun _ e _ => e.elim)
  have Bw21_RB := BL.keep BW18_RB kw21
  have Bw21_H := BL.keep BW18_H kw21
  have zw21 := kw21.size
  have Sw21 := St.keep SW18 kw21
  clear l19 l20 SW18 BW18_RB BW18_H KW18 kw21
  have l22 := Bw21_RB.lt
  have l23 := Bw21_H.lt
  have c24 : w21.cell? ⟨rb, 16, none⟩ = some (.int .i64 tt.f) := Bw21_RB.c 16 _ rfl
  have c25 : w21.cell? ⟨rb, 17, none⟩ = some (.int .i64 tt.t) := Bw21_RB.c 17 _ rfl
  have c26 : w21.cell? ⟨rb, 18, none⟩ = some (.int .i64 tt.e) := Bw21_RB.c 18 _ rfl
  go_wp2_with fail
  refine Calls.mono (HT.out _) ?_
  rintro e w27 ⟨rfl, kw27⟩
  have Kw27 := Touch.trans Kw21 kw27 (fun _ e _ => e.elim)
  have Bw27_RB := BL.keep Bw21_RB kw27
  have Bw27_H := BL.keep Bw21_H kw27
  have zw27 := kw27.size
  have Sw27 := St.keep Sw21 kw27
  clear l22 l23 c24 c25 c26 Sw21 Bw21_RB Bw21_H Kw21 kw27
  have l28 := Bw27_RB.lt
  have l29 := Bw27_H.lt
  have c30 : w27.cell? ⟨w14.heap.size, 0, none⟩ = some (.int .i64 c) := Bw27_H.c 0 _ rfl
  have c31 : w27.cell? ⟨w14.heap.size, 1, none⟩ = some (.int .i64 ag) := Bw27_H.c 1 _ rfl
  have c32 : w27.cell? ⟨w14.heap.size, 2, none⟩ = some (.int .i64 0) := Bw27_H.c 2 _ rfl
  have c33 : w27.cell? ⟨w14.heap.size, 3, none⟩ = some (.bool mk) := Bw27_H.c 3 _ rfl
  have c34 : w27.cell? ⟨w14.heap.size, 4, none⟩ = some (.bool fi) := Bw27_H.c 4 _ rfl
  have c35 : w27.cell? ⟨w14.heap.size, 5, none⟩ = some (.bool dn) := Bw27_H.c 5 _ rfl
  have f36 := Bw27_H.fz 3
  go_wp2_with fail
  refine named (fun W37 hW37 => ?_)
  have KW37 : Touch (fun k => k = rb ∨ k = bw) w W37 := by rw [hW37]; exact ((Touch.setCell Kw27 (fun hlt => absurd hlt (by show ¬ (w14.heap.size < w.heap.size); omega)) _).alloc _)
  have BW37_RB : BL W37 (rb) 70 [.pointer (some ⟨ba, 0, none⟩), .pointer (some ⟨ba, 0, none⟩), .pointer (some ⟨bt, 0, none⟩), .int .i64 (y 0).f, .int .i64 (y 0).t, .int .i64 (y 0).e, .int .i64 (y 1).f, .int .i64 (y 1).t, .int .i64 (y 1).e, .int .i64 (y 2).f, .int .i64 (y 2).t, .int .i64 (y 2).e, .int .i64 (y 3).f, .int .i64 (y 3).t, .int .i64 (y 3).e, .int .i64 thr, .int .i64 tt.f, .int .i64 tt.t, .int .i64 tt.e, .int .i64 od.f, .int .i64 od.t, .int .i64 od.e, olds, all] := by rw [hW37]; exact (BL.alloc (BL.other Bw27_RB (by show rb ≠ w14.heap.size; omega) _) _)
  have BW37_H : BL W37 (w14.heap.size) 96 [.int .i64 c, .int .i64 ag, .int .i64 0, .bool false, .bool fi, .bool dn] := by rw [hW37]; exact (BL.alloc (BL.set Bw27_H 3 (.bool false)) _)
  have BW37_L : BL W37 (w27.heap.size) 36 [.int .i64 tt.f, .int .i64 (tt.t + k), .int .i64 tt.e] := by rw [hW37]; exact (BL.new1 _ _ _ [.int .i64 tt.f, .int .i64 (tt.t + k), .int .i64 tt.e] _ (by simp) rfl)
  have zW37 : w27.heap.size + 1 ≤ W37.heap.size := by rw [hW37]; simp
  have SW37 := St.aside Sw27 (show Touch (fun k => w.heap.size ≤ k ∨ k = rb) w27 W37 by rw [hW37]; exact ((Touch.setCell (Touch.refl _ w27) (fun _ => .inl (by show w.heap.size ≤ w14.heap.size; omega)) _).alloc _)) HN.out HR_.out
  clear l28 l29 c30 c31 c32 c33 c34 c35 f36 Sw27 Bw27_RB Bw27_H Kw27 hW37
  have l38 := BW37_RB.lt
  have l39 := BW37_H.lt
  have l40 := BW37_L.lt
  refine Calls.mono (HOl.out _) ?_
  rintro e w41 ⟨rfl, kw41⟩
  have Kw41 := Touch.trans KW37 kw41 (fun _ e _ => e.elim)
  have Bw41_RB := BL.keep BW37_RB kw41
  have Bw41_H := BL.keep BW37_H kw41
  have Bw41_L := BL.keep BW37_L kw41
  have zw41 := kw41.size
  have Sw41 := St.keep SW37 kw41
  clear l38 l39 l40 SW37 BW37_RB BW37_H BW37_L KW37 kw41
  have l42 := Bw41_RB.lt
  have l43 := Bw41_H.lt
  have l44 := Bw41_L.lt
  have c45 : w41.cell? ⟨rb, 15, none⟩ = some (.int .i64 thr) := Bw41_RB.c 15 _ rfl
  have c46 : w41.cell? ⟨w14.heap.size, 1, none⟩ = some (.int .i64 ag) := Bw41_H.c 1 _ rfl
  go_wp2_with fail
  refine named_code (fun W47 hW47 => ?_)
  have KW47 : Touch (fun k => k = rb ∨ k = bw) w W47 := by rw [hW47]; exact (Kw41.alloc _)
  have BW47_RB : BL W47 (rb) 70 [.pointer (some ⟨ba, 0, none⟩), .pointer (some ⟨ba, 0, none⟩), .pointer (some ⟨bt, 0, none⟩), .int .i64 (y 0).f, .int .i64 (y 0).t, .int .i64 (y 0).e, .int .i64 (y 1).f, .int .i64 (y 1).t, .int .i64 (y 1).e, .int .i64 (y 2).f, .int .i64 (y 2).t, .int .i64 (y 2).e, .int .i64 (y 3).f, .int .i64 (y 3).t, .int .i64 (y 3).e, .int .i64 thr, .int .i64 tt.f, .int .i64 tt.t, .int .i64 tt.e, .int .i64 od.f, .int .i64 od.t, .int .i64 od.e, olds, all] := by rw [hW47]; exact (BL.alloc Bw41_RB _)
  have BW47_H : BL W47 (w14.heap.size) 96 [.int .i64 c, .int .i64 ag, .int .i64 0, .bool false, .bool fi, .bool dn] := by rw [hW47]; exact (BL.alloc Bw41_H _)
  have BW47_L : BL W47 (w27.heap.size) 36 [.int .i64 tt.f, .int .i64 (tt.t + k), .int .i64 tt.e] := by rw [hW47]; exact (BL.alloc Bw41_L _)
  have BW47_M : BL W47 (w41.heap.size) 96 [.int .i64 c, .int .i64 ag2, .int .i64 0, .bool false, .bool fi, .bool dn] := by rw [hW47]; exact (BL.new1 _ _ _ [.int .i64 c, .int .i64 ag2, .int .i64 0, .bool false, .bool fi, .bool dn] _ (by simp) rfl)
  have zW47 : w41.heap.size + 1 ≤ W47.heap.size := by rw [hW47]; simp
  have SW47 := St.aside Sw41 (show Touch (fun k => w.heap.size ≤ k ∨ k = rb) w41 W47 by rw [hW47]; exact ((Touch.refl _ w41).alloc _)) HN.out HR_.out
  clear l42 l43 l44 c45 c46 Sw41 Bw41_RB Bw41_H Bw41_L Kw41 hW47
  have l48 := BW47_RB.lt
  have l49 := BW47_H.lt
  have l50 := BW47_L.lt
  have l51 := BW47_M.lt
  have c52 : W47.cell? ⟨rb, 0, none⟩ = some (.pointer (some ⟨ba, 0, none⟩)) := BW47_RB.c 0 _ rfl
  have c53 : W47.cell? ⟨rb, 15, none⟩ = some (.int .i64 thr) := BW47_RB.c 15 _ rfl
  have c54 : W47.cell? ⟨rb, 16, none⟩ = some (.int .i64 tt.f) := BW47_RB.c 16 _ rfl
  have c55 : W47.cell? ⟨rb, 17, none⟩ = some (.int .i64 tt.t) := BW47_RB.c 17 _ rfl
  have c56 : W47.cell? ⟨rb, 18, none⟩ = some (.int .i64 tt.e) := BW47_RB.c 18 _ rfl
  have f57 := BW47_RB.fz 16
  have f58 := BW47_RB.fz 17
  have f59 := BW47_RB.fz 18
  have c60 : W47.cell? ⟨w14.heap.size, 1, none⟩ = some (.int .i64 ag) := BW47_H.c 1 _ rfl
  have c61 : W47.cell? ⟨w27.heap.size, 0, none⟩ = some (.int .i64 tt.f) := BW47_L.c 0 _ rfl
  have c62 : W47.cell? ⟨w27.heap.size, 1, none⟩ = some (.int .i64 (tt.t + k)) := BW47_L.c 1 _ rfl
  have c63 : W47.cell? ⟨w27.heap.size, 2, none⟩ = some (.int .i64 tt.e) := BW47_L.c 2 _ rfl
  go_quiet (fail)
  go_wp2_with fail
  refine named (fun W64 hW64 => ?_)
  have KW64 : Touch (fun k => k = rb ∨ k = bw) w W64 := by rw [hW64]; exact (Touch.setCell (Touch.setCell (Touch.setCell (KW47.drewN _) (fun _ => .inl rfl) _) (fun _ => .inl rfl) _) (fun _ => .inl rfl) _)
  have BW64_RB : BL W64 (rb) 70 [.pointer (some ⟨ba, 0, none⟩), .pointer (some ⟨ba, 0, none⟩), .pointer (some ⟨bt, 0, none⟩), .int .i64 (y 0).f, .int .i64 (y 0).t, .int .i64 (y 0).e, .int .i64 (y 1).f, .int .i64 (y 1).t, .int .i64 (y 1).e, .int .i64 (y 2).f, .int .i64 (y 2).t, .int .i64 (y 2).e, .int .i64 (y 3).f, .int .i64 (y 3).t, .int .i64 (y 3).e, .int .i64 thr, .int .i64 tt.f, .int .i64 (tt.t + k), .int .i64 tt.e, .int .i64 od.f, .int .i64 od.t, .int .i64 od.e, olds, all] := by rw [hW64]; exact (BL.set (BL.set (BL.set (BL.drewN _ BW47_RB) 16 (.int .i64 tt.f)) 17 (.int .i64 (tt.t + k))) 18 (.int .i64 tt.e))
  have BW64_H : BL W64 (w14.heap.size) 96 [.int .i64 c, .int .i64 ag, .int .i64 0, .bool false, .bool fi, .bool dn] := by rw [hW64]; exact (BL.other (BL.other (BL.other (BL.drewN _ BW47_H) (by show w14.heap.size ≠ rb; omega) _) (by show w14.heap.size ≠ rb; omega) _) (by show w14.heap.size ≠ rb; omega) _)
  have BW64_M : BL W64 (w41.heap.size) 96 [.int .i64 c, .int .i64 ag2, .int .i64 0, .bool false, .bool fi, .bool dn] := by rw [hW64]; exact (BL.other (BL.other (BL.other (BL.drewN _ BW47_M) (by show w41.heap.size ≠ rb; omega) _) (by show w41.heap.size ≠ rb; omega) _) (by show w41.heap.size ≠ rb; omega) _)
  have zW64 : W47.heap.size + 0 ≤ W64.heap.size := by rw [hW64]; simp
  have SW64 := St.aside SW47 (show Touch (fun k => w.heap.size ≤ k ∨ k = rb) W47 W64 by rw [hW64]; exact (Touch.setCell (Touch.setCell (Touch.setCell ((Touch.refl _ W47).drewN _) (fun _ => .inr rfl) _) (fun _ => .inr rfl) _) (fun _ => .inr rfl) _)) HN.out HR_.out
  clear l48 l49 l50 l51 c52 c53 c54 c55 c56 f57 f58 f59 c60 c61 c62 c63 SW47 BW47_RB BW47_H BW47_L BW47_M KW47 hW64
  have l65 := BW64_RB.lt
  have l66 := BW64_H.lt
  have l67 := BW64_M.lt
  refine Calls.mono (HMv.out _ SW64.ar) ?_
  rintro e w68 ⟨rfl, aw68, ow68⟩
  have Kw68 := Touch.trans KW64 ow68 (fun _ e _ => .inr e)
  have Sw68 := St.only SW64 aw68 ow68
  have Bw68_RB := BL.touch BW64_RB ow68 (by show ¬ (rb = bw); omega)
  have Bw68_H := BL.touch BW64_H ow68 (by show ¬ (w14.heap.size = bw); omega)
  have Bw68_M := BL.touch BW64_M ow68 (by show ¬ (w41.heap.size = bw); omega)
  have zw68 := ow68.size
  clear l65 l66 l67 BW64_RB BW64_H BW64_M KW64 ow68 aw68 SW64
  have l69 := Bw68_RB.lt
  have l70 := Bw68_H.lt
  have l71 := Bw68_M.lt
  have c72 : w68.cell? ⟨rb, 1, none⟩ = some (.pointer (some ⟨ba, 0, none⟩)) := Bw68_RB.c 1 _ rfl
  have c73 : w68.cell? ⟨rb, 2, none⟩ = some (.pointer (some ⟨bt, 0, none⟩)) := Bw68_RB.c 2 _ rfl
  have c74 : w68.cell? ⟨w41.heap.size, 0, none⟩ = some (.int .i64 c) := Bw68_M.c 0 _ rfl
  have c75 : w68.cell? ⟨w41.heap.size, 1, none⟩ = some (.int .i64 ag2) := Bw68_M.c 1 _ rfl
  have c76 : w68.cell? ⟨w41.heap.size, 2, none⟩ = some (.int .i64 0) := Bw68_M.c 2 _ rfl
  have c77 : w68.cell? ⟨w41.heap.size, 3, none⟩ = some (.bool false) := Bw68_M.c 3 _ rfl
  have c78 : w68.cell? ⟨w41.heap.size, 4, none⟩ = some (.bool fi) := Bw68_M.c 4 _ rfl
  have c79 : w68.cell? ⟨w41.heap.size, 5, none⟩ = some (.bool dn) := Bw68_M.c 5 _ rfl
  go_wp2_with fail
  clear l69 l70 l71 c72 c73 c74 c75 c76 c77 c78 c79
  have l80 := Bw68_RB.lt
  have l81 := Bw68_H.lt
  have l82 := Bw68_M.lt
  have d1 := Bw68_RB.c 1 _ rfl
  have d2 := Bw68_RB.c 2 _ rfl
  have e0 := Bw68_M.c 0 _ rfl
  have e1 := Bw68_M.c 1 _ rfl
  have e2 := Bw68_M.c 2 _ rfl
  have e3 := Bw68_M.c 3 _ rfl
  have e4 := Bw68_M.c 4 _ rfl
  have e5 := Bw68_M.c 5 _ rfl
  refine wp_region_noPanic ?_
  refine wp_region_held_drew (S := (fun w' => Only bw w68 w')) (by kernel_rfl) (Only.refl _ w68).drew (fun hHeld => ?_)
  refine' wpAnyH_take (i := 0) ?hi0_1 ?hs0_1 ?hf0_1 ?hr0_1 ?hQ0_1 ?hy0_1 (by assumption) ?rest0_1
  case hi0_1 => simp only [List.getElem?_toArray, List.getElem?_cons_zero] <;> rfl
  case hs0_1 => kernel_rfl
  case hf0_1 => kernel_rfl
  case hr0_1 => kernel_rfl
  case hQ0_1 => exact fun _ _ _ h => h
  case hy0_1 => exact Or.inl ⟨by rfl, fun w hSw => by have q1 := cell_only d1 hSw (by show rb ≠ bw; omega); have q2 := cell_only d2 hSw (by show rb ≠ bw; omega); have p0 := cell_only e0 hSw (by show w41.heap.size ≠ bw; omega); have p1 := cell_only e1 hSw (by show w41.heap.size ≠ bw; omega); have p2 := cell_only e2 hSw (by show w41.heap.size ≠ bw; omega); have p3 := cell_only e3 hSw (by show w41.heap.size ≠ bw; omega); have p4 := cell_only e4 hSw (by show w41.heap.size ≠ bw; omega); have p5 := cell_only e5 hSw (by show w41.heap.size ≠ bw; omega); go_simp <;> (try with_reducible rfl)⟩
  simp only [Act.put, List.setIfInBounds_toArray, List.set_cons_zero, List.set_cons_succ]
  refine' wpAnyH_take (i := 1) ?hi1_1 ?hs1_1 ?hf1_1 ?hr1_1 ?hQ1_1 ?hy1_1 (by assumption) ?rest1_1
  case hi1_1 => simp only [List.getElem?_toArray, List.getElem?_cons_succ, List.getElem?_cons_zero] <;> rfl
  case hs1_1 => kernel_rfl
  case hf1_1 => kernel_rfl
  case hr1_1 => kernel_rfl
  case hQ1_1 => exact fun _ _ _ h => h
  case hy1_1 => exact Or.inl ⟨by rfl, fun w hSw => by have q1 := cell_only d1 hSw (by show rb ≠ bw; omega); have q2 := cell_only d2 hSw (by show rb ≠ bw; omega); have p0 := cell_only e0 hSw (by show w41.heap.size ≠ bw; omega); have p1 := cell_only e1 hSw (by show w41.heap.size ≠ bw; omega); have p2 := cell_only e2 hSw (by show w41.heap.size ≠ bw; omega); have p3 := cell_only e3 hSw (by show w41.heap.size ≠ bw; omega); have p4 := cell_only e4 hSw (by show w41.heap.size ≠ bw; omega); have p5 := cell_only e5 hSw (by show w41.heap.size ≠ bw; omega); go_simp <;> (try with_reducible rfl)⟩
  simp only [Act.put, List.setIfInBounds_toArray, List.set_cons_zero, List.set_cons_succ]
  refine' wpAnyH_take (i := 2) ?hi2_1 ?hs2_1 ?hf2_1 ?hr2_1 ?hQ2_1 ?hy2_1 (by assumption) ?rest2_1
  case hi2_1 => simp only [List.getElem?_toArray, List.getElem?_cons_succ, List.getElem?_cons_zero] <;> rfl
  case hs2_1 => kernel_rfl
  case hf2_1 => kernel_rfl
  case hr2_1 => kernel_rfl
  case hQ2_1 => exact fun _ _ _ h => h
  case hy2_1 => exact Or.inl ⟨by rfl, fun w hSw => by have q1 := cell_only d1 hSw (by show rb ≠ bw; omega); have q2 := cell_only d2 hSw (by show rb ≠ bw; omega); have p0 := cell_only e0 hSw (by show w41.heap.size ≠ bw; omega); have p1 := cell_only e1 hSw (by show w41.heap.size ≠ bw; omega); have p2 := cell_only e2 hSw (by show w41.heap.size ≠ bw; omega); have p3 := cell_only e3 hSw (by show w41.heap.size ≠ bw; omega); have p4 := cell_only e4 hSw (by show w41.heap.size ≠ bw; omega); have p5 := cell_only e5 hSw (by show w41.heap.size ≠ bw; omega); go_simp <;> (try with_reducible rfl)⟩
  simp only [Act.put, List.setIfInBounds_toArray, List.set_cons_zero, List.set_cons_succ]
  refine' wpAnyH_take (i := 3) ?hi3_1 ?hs3_1 ?hf3_1 ?hr3_1 ?hQ3_1 ?hy3_1 (by assumption) ?rest3_1
  case hi3_1 => simp only [List.getElem?_toArray, List.getElem?_cons_succ, List.getElem?_cons_zero] <;> rfl
  case hs3_1 => kernel_rfl
  case hf3_1 => kernel_rfl
  case hr3_1 => kernel_rfl
  case hQ3_1 => exact fun _ _ _ h => h
  case hy3_1 => exact Or.inl ⟨by rfl, fun w hSw => by have q1 := cell_only d1 hSw (by show rb ≠ bw; omega); have q2 := cell_only d2 hSw (by show rb ≠ bw; omega); have p0 := cell_only e0 hSw (by show w41.heap.size ≠ bw; omega); have p1 := cell_only e1 hSw (by show w41.heap.size ≠ bw; omega); have p2 := cell_only e2 hSw (by show w41.heap.size ≠ bw; omega); have p3 := cell_only e3 hSw (by show w41.heap.size ≠ bw; omega); have p4 := cell_only e4 hSw (by show w41.heap.size ≠ bw; omega); have p5 := cell_only e5 hSw (by show w41.heap.size ≠ bw; omega); go_simp <;> (try with_reducible rfl)⟩
  simp only [Act.put, List.setIfInBounds_toArray, List.set_cons_zero, List.set_cons_succ]
  refine' wpAnyH_take (i := 4) ?hi4_1 ?hs4_1 ?hf4_1 ?hr4_1 ?hQ4_1 ?hy4_1 (by assumption) ?rest4_1
  case hi4_1 => simp only [List.getElem?_toArray, List.getElem?_cons_succ, List.getElem?_cons_zero] <;> rfl
  case hs4_1 => kernel_rfl
  case hf4_1 => kernel_rfl
  case hr4_1 => kernel_rfl
  case hQ4_1 => exact fun _ _ _ h => h
  case hy4_1 => exact Or.inl ⟨by rfl, fun w hSw => by have q1 := cell_only d1 hSw (by show rb ≠ bw; omega); have q2 := cell_only d2 hSw (by show rb ≠ bw; omega); have p0 := cell_only e0 hSw (by show w41.heap.size ≠ bw; omega); have p1 := cell_only e1 hSw (by show w41.heap.size ≠ bw; omega); have p2 := cell_only e2 hSw (by show w41.heap.size ≠ bw; omega); have p3 := cell_only e3 hSw (by show w41.heap.size ≠ bw; omega); have p4 := cell_only e4 hSw (by show w41.heap.size ≠ bw; omega); have p5 := cell_only e5 hSw (by show w41.heap.size ≠ bw; omega); go_simp <;> (try with_reducible rfl)⟩
  simp only [Act.put, List.setIfInBounds_toArray, List.set_cons_zero, List.set_cons_succ]
  refine' wpAnyH_take (i := 5) ?hi5_1 ?hs5_1 ?hf5_1 ?hr5_1 ?hQ5_1 ?hy5_1 (by assumption) ?rest5_1
  case hi5_1 => simp only [List.getElem?_toArray, List.getElem?_cons_succ, List.getElem?_cons_zero] <;> rfl
  case hs5_1 => kernel_rfl
  case hf5_1 => kernel_rfl
  case hr5_1 => kernel_rfl
  case hQ5_1 => exact fun _ _ _ h => h
  case hy5_1 => exact Or.inl ⟨by rfl, fun w hSw => by have q1 := cell_only d1 hSw (by show rb ≠ bw; omega); have q2 := cell_only d2 hSw (by show rb ≠ bw; omega); have p0 := cell_only e0 hSw (by show w41.heap.size ≠ bw; omega); have p1 := cell_only e1 hSw (by show w41.heap.size ≠ bw; omega); have p2 := cell_only e2 hSw (by show w41.heap.size ≠ bw; omega); have p3 := cell_only e3 hSw (by show w41.heap.size ≠ bw; omega); have p4 := cell_only e4 hSw (by show w41.heap.size ≠ bw; omega); have p5 := cell_only e5 hSw (by show w41.heap.size ≠ bw; omega); go_simp <;> (try with_reducible rfl)⟩
  simp only [Act.put, List.setIfInBounds_toArray, List.set_cons_zero, List.set_cons_succ]
  refine wpAnyH_ready (rs := [6]) (by kernel_rfl) (by simp) ?_
  refine AllReadyH.cons rfl (fun K hK => ?_) AllReadyH.nil
  go_simp
  with_reducible refine Calls.mono (HS1.out _ (St.keep Sw68 (Touch.drew (Touch.refl (fun _ => False) w68)))) ?_
  rintro e w83 ⟨rfl, Sw83, ow83⟩
  go_wp2_with fail
  refine hK.out _ _ (hHeld.trans_ ow83) (fun hHeld => ?_)
  clear hK K
  refine wpAnyH_done (by kernel_rfl) ?_ _
  refine NoPanic.normal ?_
  have ow83_ : Only bw w68 w83 := hHeld
  clear hHeld d1 d2 e0 e1 e2 e3 e4 e5 ow83
  have Kw83 := Touch.trans Kw68 ow83_ (fun _ e _ => .inr e)
  have Bw83_RB := BL.touch Bw68_RB ow83_ (by show ¬ (rb = bw); omega)
  have Bw83_H := BL.touch Bw68_H ow83_ (by show ¬ (w14.heap.size = bw); omega)
  have zw83 := ow83_.size
  clear l80 l81 l82 Bw68_RB Bw68_H Bw68_M Kw68 ow83_ Sw68
  have l84 := Bw83_RB.lt
  have l85 := Bw83_H.lt
  have c86 : w83.cell? ⟨w14.heap.size, 2, none⟩ = some (.int .i64 0) := Bw83_H.c 2 _ rfl
  have f87 := Bw83_H.fz 2
  go_wp2_with fail
  refine named_code (fun W88 hW88 => ?_)
  have KW88 : Touch (fun k => k = rb ∨ k = bw) w W88 := by rw [hW88]; exact (Touch.setCell Kw83 (fun hlt => absurd hlt (by show ¬ (w14.heap.size < w.heap.size); omega)) _)
  have BW88_RB : BL W88 (rb) 70 [.pointer (some ⟨ba, 0, none⟩), .pointer (some ⟨ba, 0, none⟩), .pointer (some ⟨bt, 0, none⟩), .int .i64 (y 0).f, .int .i64 (y 0).t, .int .i64 (y 0).e, .int .i64 (y 1).f, .int .i64 (y 1).t, .int .i64 (y 1).e, .int .i64 (y 2).f, .int .i64 (y 2).t, .int .i64 (y 2).e, .int .i64 (y 3).f, .int .i64 (y 3).t, .int .i64 (y 3).e, .int .i64 thr, .int .i64 tt.f, .int .i64 (tt.t + k), .int .i64 tt.e, .int .i64 od.f, .int .i64 od.t, .int .i64 od.e, olds, all] := by rw [hW88]; exact (BL.other Bw83_RB (by show rb ≠ w14.heap.size; omega) _)
  have BW88_H : BL W88 (w14.heap.size) 96 [.int .i64 c, .int .i64 ag, .int .i64 tt.t, .bool false, .bool fi, .bool dn] := by rw [hW88]; exact (BL.set Bw83_H 2 (.int .i64 tt.t))
  have zW88 : w83.heap.size + 0 ≤ W88.heap.size := by rw [hW88]; simp
  have SW88 := St.aside Sw83 (show Touch (fun k => w.heap.size ≤ k ∨ k = rb) w83 W88 by rw [hW88]; exact (Touch.setCell (Touch.refl _ w83) (fun _ => .inl (by show w.heap.size ≤ w14.heap.size; omega)) _)) HN.out HR_.out
  clear l84 l85 c86 f87 Sw83 Bw83_RB Bw83_H Kw83 hW88
  have l89 := BW88_RB.lt
  have l90 := BW88_H.lt
  clear l89 l90
  have l91 := BW88_RB.lt
  have l92 := BW88_H.lt
  have d1 := BW88_RB.c 1 _ rfl
  have d2 := BW88_RB.c 2 _ rfl
  have e0 := BW88_H.c 0 _ rfl
  have e1 := BW88_H.c 1 _ rfl
  have e2 := BW88_H.c 2 _ rfl
  have e3 := BW88_H.c 3 _ rfl
  have e4 := BW88_H.c 4 _ rfl
  have e5 := BW88_H.c 5 _ rfl
  refine wp_region_noPanic ?_
  refine wp_region_held_drew (S := (fun w' => Only bw W88 w')) (by kernel_rfl) (Only.refl _ W88).drew (fun hHeld => ?_)
  refine' wpAnyH_take (i := 0) ?hi0_2 ?hs0_2 ?hf0_2 ?hr0_2 ?hQ0_2 ?hy0_2 (by assumption) ?rest0_2
  case hi0_2 => simp only [List.getElem?_toArray, List.getElem?_cons_zero] <;> rfl
  case hs0_2 => kernel_rfl
  case hf0_2 => kernel_rfl
  case hr0_2 => kernel_rfl
  case hQ0_2 => exact fun _ _ _ h => h
  case hy0_2 => exact Or.inl ⟨by rfl, fun w hSw => by have q1 := cell_only d1 hSw (by show rb ≠ bw; omega); have q2 := cell_only d2 hSw (by show rb ≠ bw; omega); have p0 := cell_only e0 hSw (by show w14.heap.size ≠ bw; omega); have p1 := cell_only e1 hSw (by show w14.heap.size ≠ bw; omega); have p2 := cell_only e2 hSw (by show w14.heap.size ≠ bw; omega); have p3 := cell_only e3 hSw (by show w14.heap.size ≠ bw; omega); have p4 := cell_only e4 hSw (by show w14.heap.size ≠ bw; omega); have p5 := cell_only e5 hSw (by show w14.heap.size ≠ bw; omega); go_simp <;> (try with_reducible rfl)⟩
  simp only [Act.put, List.setIfInBounds_toArray, List.set_cons_zero, List.set_cons_succ]
  refine' wpAnyH_take (i := 1) ?hi1_2 ?hs1_2 ?hf1_2 ?hr1_2 ?hQ1_2 ?hy1_2 (by assumption) ?rest1_2
  case hi1_2 => simp only [List.getElem?_toArray, List.getElem?_cons_succ, List.getElem?_cons_zero] <;> rfl
  case hs1_2 => kernel_rfl
  case hf1_2 => kernel_rfl
  case hr1_2 => kernel_rfl
  case hQ1_2 => exact fun _ _ _ h => h
  case hy1_2 => exact Or.inl ⟨by rfl, fun w hSw => by have q1 := cell_only d1 hSw (by show rb ≠ bw; omega); have q2 := cell_only d2 hSw (by show rb ≠ bw; omega); have p0 := cell_only e0 hSw (by show w14.heap.size ≠ bw; omega); have p1 := cell_only e1 hSw (by show w14.heap.size ≠ bw; omega); have p2 := cell_only e2 hSw (by show w14.heap.size ≠ bw; omega); have p3 := cell_only e3 hSw (by show w14.heap.size ≠ bw; omega); have p4 := cell_only e4 hSw (by show w14.heap.size ≠ bw; omega); have p5 := cell_only e5 hSw (by show w14.heap.size ≠ bw; omega); go_simp <;> (try with_reducible rfl)⟩
  simp only [Act.put, List.setIfInBounds_toArray, List.set_cons_zero, List.set_cons_succ]
  refine' wpAnyH_take (i := 2) ?hi2_2 ?hs2_2 ?hf2_2 ?hr2_2 ?hQ2_2 ?hy2_2 (by assumption) ?rest2_2
  case hi2_2 => simp only [List.getElem?_toArray, List.getElem?_cons_succ, List.getElem?_cons_zero] <;> rfl
  case hs2_2 => kernel_rfl
  case hf2_2 => kernel_rfl
  case hr2_2 => kernel_rfl
  case hQ2_2 => exact fun _ _ _ h => h
  case hy2_2 => exact Or.inl ⟨by rfl, fun w hSw => by have q1 := cell_only d1 hSw (by show rb ≠ bw; omega); have q2 := cell_only d2 hSw (by show rb ≠ bw; omega); have p0 := cell_only e0 hSw (by show w14.heap.size ≠ bw; omega); have p1 := cell_only e1 hSw (by show w14.heap.size ≠ bw; omega); have p2 := cell_only e2 hSw (by show w14.heap.size ≠ bw; omega); have p3 := cell_only e3 hSw (by show w14.heap.size ≠ bw; omega); have p4 := cell_only e4 hSw (by show w14.heap.size ≠ bw; omega); have p5 := cell_only e5 hSw (by show w14.heap.size ≠ bw; omega); go_simp <;> (try with_reducible rfl)⟩
  simp only [Act.put, List.setIfInBounds_toArray, List.set_cons_zero, List.set_cons_succ]
  refine' wpAnyH_take (i := 3) ?hi3_2 ?hs3_2 ?hf3_2 ?hr3_2 ?hQ3_2 ?hy3_2 (by assumption) ?rest3_2
  case hi3_2 => simp only [List.getElem?_toArray, List.getElem?_cons_succ, List.getElem?_cons_zero] <;> rfl
  case hs3_2 => kernel_rfl
  case hf3_2 => kernel_rfl
  case hr3_2 => kernel_rfl
  case hQ3_2 => exact fun _ _ _ h => h
  case hy3_2 => exact Or.inl ⟨by rfl, fun w hSw => by have q1 := cell_only d1 hSw (by show rb ≠ bw; omega); have q2 := cell_only d2 hSw (by show rb ≠ bw; omega); have p0 := cell_only e0 hSw (by show w14.heap.size ≠ bw; omega); have p1 := cell_only e1 hSw (by show w14.heap.size ≠ bw; omega); have p2 := cell_only e2 hSw (by show w14.heap.size ≠ bw; omega); have p3 := cell_only e3 hSw (by show w14.heap.size ≠ bw; omega); have p4 := cell_only e4 hSw (by show w14.heap.size ≠ bw; omega); have p5 := cell_only e5 hSw (by show w14.heap.size ≠ bw; omega); go_simp <;> (try with_reducible rfl)⟩
  simp only [Act.put, List.setIfInBounds_toArray, List.set_cons_zero, List.set_cons_succ]
  refine' wpAnyH_take (i := 4) ?hi4_2 ?hs4_2 ?hf4_2 ?hr4_2 ?hQ4_2 ?hy4_2 (by assumption) ?rest4_2
  case hi4_2 => simp only [List.getElem?_toArray, List.getElem?_cons_succ, List.getElem?_cons_zero] <;> rfl
  case hs4_2 => kernel_rfl
  case hf4_2 => kernel_rfl
  case hr4_2 => kernel_rfl
  case hQ4_2 => exact fun _ _ _ h => h
  case hy4_2 => exact Or.inl ⟨by rfl, fun w hSw => by have q1 := cell_only d1 hSw (by show rb ≠ bw; omega); have q2 := cell_only d2 hSw (by show rb ≠ bw; omega); have p0 := cell_only e0 hSw (by show w14.heap.size ≠ bw; omega); have p1 := cell_only e1 hSw (by show w14.heap.size ≠ bw; omega); have p2 := cell_only e2 hSw (by show w14.heap.size ≠ bw; omega); have p3 := cell_only e3 hSw (by show w14.heap.size ≠ bw; omega); have p4 := cell_only e4 hSw (by show w14.heap.size ≠ bw; omega); have p5 := cell_only e5 hSw (by show w14.heap.size ≠ bw; omega); go_simp <;> (try with_reducible rfl)⟩
  simp only [Act.put, List.setIfInBounds_toArray, List.set_cons_zero, List.set_cons_succ]
  refine' wpAnyH_take (i := 5) ?hi5_2 ?hs5_2 ?hf5_2 ?hr5_2 ?hQ5_2 ?hy5_2 (by assumption) ?rest5_2
  case hi5_2 => simp only [List.getElem?_toArray, List.getElem?_cons_succ, List.getElem?_cons_zero] <;> rfl
  case hs5_2 => kernel_rfl
  case hf5_2 => kernel_rfl
  case hr5_2 => kernel_rfl
  case hQ5_2 => exact fun _ _ _ h => h
  case hy5_2 => exact Or.inl ⟨by rfl, fun w hSw => by have q1 := cell_only d1 hSw (by show rb ≠ bw; omega); have q2 := cell_only d2 hSw (by show rb ≠ bw; omega); have p0 := cell_only e0 hSw (by show w14.heap.size ≠ bw; omega); have p1 := cell_only e1 hSw (by show w14.heap.size ≠ bw; omega); have p2 := cell_only e2 hSw (by show w14.heap.size ≠ bw; omega); have p3 := cell_only e3 hSw (by show w14.heap.size ≠ bw; omega); have p4 := cell_only e4 hSw (by show w14.heap.size ≠ bw; omega); have p5 := cell_only e5 hSw (by show w14.heap.size ≠ bw; omega); go_simp <;> (try with_reducible rfl)⟩
  simp only [Act.put, List.setIfInBounds_toArray, List.set_cons_zero, List.set_cons_succ]
  refine wpAnyH_ready (rs := [6]) (by kernel_rfl) (by simp) ?_
  refine AllReadyH.cons rfl (fun K hK => ?_) AllReadyH.nil
  go_simp
  with_reducible refine Calls.mono (HS2.out _ (St.keep SW88 (Touch.drew (Touch.refl (fun _ => False) W88)))) ?_
  rintro e w93 ⟨rfl, Sw93, ow93⟩
  go_wp2_with fail
  refine hK.out _ _ (hHeld.trans_ ow93) (fun hHeld => ?_)
  clear hK K
  refine wpAnyH_done (by kernel_rfl) ?_ _
  refine NoPanic.normal ?_
  have ow93_ : Only bw W88 w93 := hHeld
  clear hHeld d1 d2 e0 e1 e2 e3 e4 e5 ow93
  have Kw93 := Touch.trans KW88 ow93_ (fun _ e _ => .inr e)
  have Bw93_RB := BL.touch BW88_RB ow93_ (by show ¬ (rb = bw); omega)
  have zw93 := ow93_.size
  clear l91 l92 BW88_RB BW88_H KW88 ow93_ SW88
  have l94 := Bw93_RB.lt
  go_wp2_with fail
  go_ret
  exact ⟨rfl, ⟨Sw93, Bw93_RB, HR_.out⟩, Kw93⟩
set_option maxRecDepth 100000 in
set_option maxHeartbeats 2000000 in
theorem move_full {w : World} {ba bw n : Nat} {f : Nat → Int} {bt : Nat} {A : Option Addr} {m cap : Nat} {C : Nat → Cl} {rb : Nat} {y : Nat → Sp} {thr : Int} {tt od : Sp} {olds all : Value} (h : Rn w ba bw n f bt A m cap C rb y thr tt od olds all) (hm : 0 < m)
    {a c ag r d k : Int} {mk fi dn : Bool} (hat : atT n f m C a = (⟨⟨c, ag, 0, mk, fi, dn⟩, r, d, k⟩, 0)) (hc : c ≠ 0) (hok : (⟨c, ag, 0, mk, fi, dn⟩ : Hd).ok) (hk : 2 ≤ k) (hyg : ygB (y 1) (y 2) a = true) (ha : 1 ≤ a) (han : a + k ≤ n)
    (hb : 1 ≤ od.t) (hbn : od.t + k ≤ n) (hb4 : od.t < 4096) (hsep : od.t + k ≤ a ∨ a + k ≤ od.t) (ht : rightB tt = true) (ho : rightB od = true) (hno : tt.e - tt.t < k) (hle : k ≤ od.e - od.t) :
    Calls Try.prog 25 #[.pointer (some ⟨rb, 0, none⟩), .int .i64 a] w fun e w' => e = .returned (.int .i64 od.t) ∧
      Rn w' ba bw n (mvF f a od.t k ⟨c, ag, 0, false, fi, dn⟩ (fwdH ⟨c, ag, 0, mk, fi, dn⟩ od.t)) bt A m cap C rb y thr tt { od with t := od.t + k } olds all ∧ Touch (fun k => k = rb ∨ k = bw) w w' := by
  have S0 := h.st
  have hR := h.blk
  have HR_ := Lib.hid h.ne
  have n1 := h.ne.2.1
  have hrl := h.blk.lt
  have hbl := S0.ar.lt2
  have HN := Lib.hid (S0.lows hm)
  have hz : (a == 0) = false := by simp; omega
  have HYc := Lib.hid (show YgC w rb (y 1) (y 2) from ⟨hR.c 6 _ rfl, hR.c 7 _ rfl, hR.c 8 _ rfl, hR.c 9 _ rfl, hR.c 10 _ rfl, hR.c 11 _ rfl⟩)
  have HY := Lib.hid (show ∀ w', YgC w' rb (y 1) (y 2) → Calls Try.prog 57 #[.pointer (some ⟨rb, 0, none⟩), .int .i64 a] w' fun e w2 => e = .returned (.bool true) ∧ Keeps w' w2 from fun w' q => by rw [← hyg]; exact young_any rb (y 1) (y 2) a w' q)
  have hobj : objP (atT n f m C a) = (⟨⟨c, ag, 0, mk, fi, dn⟩, r, d, k⟩, 0) := by rw [objP_same (by rw [hat]; exact fun q => hc q.2)]; exact hat
  have HHd := Lib.hid (show ∀ w', St w' ba bw n f bt A m cap C → Calls Try.prog 41 #[.agg #[.pointer (some ⟨ba, 0, none⟩), .pointer (some ⟨bt, 0, none⟩)], .int .i64 a] w' fun e w2 => e = .returned (.tuple #[.agg #[.int .i64 c, .int .i64 ag, .int .i64 0, .bool mk, .bool fi, .bool dn], .int .i64 0]) ∧ Keeps w' w2 from fun w' q => by
    have := ohead_any ba bw n f bt A m cap C w' q a
    rw [hobj] at this
    exact this)
  have HSz := Lib.hid (show ∀ w', St w' ba bw n f bt A m cap C → Calls Try.prog 58 #[.agg #[.pointer (some ⟨ba, 0, none⟩), .pointer (some ⟨bt, 0, none⟩)], .int .i64 a] w' fun e w2 => e = .returned (.tuple #[.int .i64 k, .bool (c != 0), .int .i64 0]) ∧ Keeps w' w2 from fun w' q => by
    have := size_any ba bw n f bt A m cap C w' q a
    rw [hat] at this
    exact this)
  have HT := Lib.hid (show ∀ w', Calls Try.prog 59 #[.agg #[.int .i64 tt.f, .int .i64 tt.t, .int .i64 tt.e], .int .i64 k] w' fun e w2 => e = .returned (.tuple #[.int .i64 0, .agg #[.int .i64 0, .int .i64 0, .int .i64 0], .int .i64 3]) ∧ Keeps w' w2 from fun w' => by
    have := take_any tt k w' ht (by omega)
    rw [if_pos hno] at this
    exact this)
  have HT2 := Lib.hid (show ∀ w', Calls Try.prog 59 #[.agg #[.int .i64 od.f, .int .i64 od.t, .int .i64 od.e], .int .i64 k] w' fun e w2 => e = .returned (.tuple #[.int .i64 od.t, .agg #[.int .i64 od.f, .int .i64 (od.t + k), .int .i64 od.e], .int .i64 0]) ∧ Keeps w' w2 from fun w' => by
    have := take_any od k w' ho (by omega)
    rw [if_neg (by omega)] at this
    exact this)
  obtain ⟨ag2, hag2⟩ : ∃ z, z = (if ag + 1 ≤ 7 then ag + 1 else 7) := ⟨_, rfl⟩
  have HOl := Lib.hid (show ∀ w', Calls Try.prog 60 #[.agg #[.int .i64 c, .int .i64 ag, .int .i64 0, .bool false, .bool fi, .bool dn]] w' fun e w2 => e = .returned (.agg #[.int .i64 c, .int .i64 ag2, .int .i64 0, .bool false, .bool fi, .bool dn]) ∧ Keeps w' w2 from fun w' => by
    rw [hag2]; exact older_any ⟨c, ag, 0, false, fi, dn⟩ (unm_ok hok) w')
  have HMv := Lib.hid (fun w' (q : Ar w' ba bw n f) => move_at ba bw n f w' q od.t a k (by omega) (by omega) (by omega) hbn han)
  have hk1 : (⟨c, ag, 0, false, fi, dn⟩ : Hd).ok := by exact unm_ok hok
  obtain ⟨m1, m2⟩ := move_mid hat hc hk ha hb hbn hsep
  have m3 := m2 ⟨c, ag, 0, false, fi, dn⟩ hk1 rfl
  have HS1 := Lib.hid (show ∀ w', St w' ba bw n (moveF f od.t a k) bt A m cap C → Calls Try.prog 42 #[.agg #[.pointer (some ⟨ba, 0, none⟩), .pointer (some ⟨bt, 0, none⟩)], .int .i64 od.t, .agg #[.int .i64 c, .int .i64 ag, .int .i64 0, .bool false, .bool fi, .bool dn]] w' fun e w2 => e = .returned (.int .i64 0) ∧ St w2 ba bw n (putF (moveF f od.t a k) (od.t).toNat (hdW ⟨c, ag, 0, false, fi, dn⟩)) bt A m cap C ∧ Only bw w' w2 from fun w' q =>
    sethead_yes ba bw n _ bt A m cap C w' q od.t ⟨c, ag, 0, false, fi, dn⟩ (by rw [objP_same (by rw [m1]; exact fun q => hc q.2), m1]) hk1 (by rw [objP_same (by rw [m1]; exact fun q => hc q.2), m1]))
  have HS2 := Lib.hid (show ∀ w', St w' ba bw n (putF (moveF f od.t a k) (od.t).toNat (hdW ⟨c, ag, 0, false, fi, dn⟩)) bt A m cap C → Calls Try.prog 42 #[.agg #[.pointer (some ⟨ba, 0, none⟩), .pointer (some ⟨bt, 0, none⟩)], .int .i64 a, .agg #[.int .i64 c, .int .i64 ag, .int .i64 od.t, .bool false, .bool fi, .bool dn]] w' fun e w2 => e = .returned (.int .i64 0) ∧ St w2 ba bw n (mvF f a od.t k ⟨c, ag, 0, false, fi, dn⟩ (fwdH ⟨c, ag, 0, mk, fi, dn⟩ od.t)) bt A m cap C ∧ Only bw w' w2 from fun w' q => by
    have e : (⟨c, ag, 0, false, fi, dn⟩ : Hd) = ⟨c, ag, 0, false, fi, dn⟩ := rfl
    rw [e]
    exact sethead_yes ba bw n _ bt A m cap C w' q a (fwdH ⟨c, ag, 0, mk, fi, dn⟩ od.t) (by rw [objP_same (by rw [m3]; exact fun q => hc q.2), m3]) (fwdH_ok hok (by omega) hb4) (by rw [objP_same (by rw [m3]; exact fun q => hc q.2), m3]; rfl))
  have K0 := Touch.refl (fun k => k = rb ∨ k = bw) w
  clear h hat hok hk1 m1 m2 m3 hobj hag2 hyg hsep ht ho hc
  unfold rnL at hR
  have l1 := hR.lt
  have c2 : w.cell? ⟨rb, 1, none⟩ = some (.pointer (some ⟨ba, 0, none⟩)) := hR.c 1 _ rfl
  have c3 : w.cell? ⟨rb, 2, none⟩ = some (.pointer (some ⟨bt, 0, none⟩)) := hR.c 2 _ rfl
  have c4 : w.cell? ⟨rb, 6, none⟩ = some (.int .i64 (y 1).f) := hR.c 6 _ rfl
  have c5 : w.cell? ⟨rb, 7, none⟩ = some (.int .i64 (y 1).t) := hR.c 7 _ rfl
  have c6 : w.cell? ⟨rb, 8, none⟩ = some (.int .i64 (y 1).e) := hR.c 8 _ rfl
  have c7 : w.cell? ⟨rb, 9, none⟩ = some (.int .i64 (y 2).f) := hR.c 9 _ rfl
  have c8 : w.cell? ⟨rb, 10, none⟩ = some (.int .i64 (y 2).t) := hR.c 10 _ rfl
  have c9 : w.cell? ⟨rb, 11, none⟩ = some (.int .i64 (y 2).e) := hR.c 11 _ rfl
  go_enter Try.func25, Try.ntmps25
  go_wp2_with fail
  refine Calls.mono (HY.out _ HYc.out) ?_
  rintro e w10 ⟨rfl, kw10⟩
  have Kw10 := Touch.trans K0 kw10 (fun _ e _ => e.elim)
  have Bw10_RB := BL.keep hR kw10
  have zw10 := kw10.size
  have Sw10 := St.keep S0 kw10
  clear l1 c2 c3 c4 c5 c6 c7 c8 c9 S0 hR K0 kw10
  have l11 := Bw10_RB.lt
  have c12 : w10.cell? ⟨rb, 1, none⟩ = some (.pointer (some ⟨ba, 0, none⟩)) := Bw10_RB.c 1 _ rfl
  have c13 : w10.cell? ⟨rb, 2, none⟩ = some (.pointer (some ⟨bt, 0, none⟩)) := Bw10_RB.c 2 _ rfl
  go_wp2_with fail
  refine Calls.mono (HHd.out _ Sw10) ?_
  rintro e w14 ⟨rfl, kw14⟩
  have Kw14 := Touch.trans Kw10 kw14 (fun _ e _ => e.elim)
  have Bw14_RB := BL.keep Bw10_RB kw14
  have zw14 := kw14.size
  have Sw14 := St.keep Sw10 kw14
  clear l11 c12 c13 Sw10 Bw10_RB Kw10 kw14
  have l15 := Bw14_RB.lt
  have c16 : w14.cell? ⟨rb, 1, none⟩ = some (.pointer (some ⟨ba, 0, none⟩)) := Bw14_RB.c 1 _ rfl
  have c17 : w14.cell? ⟨rb, 2, none⟩ = some (.pointer (some ⟨bt, 0, none⟩)) := Bw14_RB.c 2 _ rfl
  go_wp2_with fail
  refine named (fun W18 hW18 => ?_)
  have KW18 : Touch (fun k => k = rb ∨ k = bw) w W18 := by rw [hW18]; exact (Kw14.alloc _)
  have BW18_RB : BL W18 (rb) 70 [.pointer (some ⟨ba, 0, none⟩), .pointer (some ⟨ba, 0, none⟩), .pointer (some ⟨bt, 0, none⟩), .int .i64 (y 0).f, .int .i64 (y 0).t, .int .i64 (y 0).e, .int .i64 (y 1).f, .int .i64 (y 1).t, .int .i64 (y 1).e, .int .i64 (y 2).f, .int .i64 (y 2).t, .int .i64 (y 2).e, .int .i64 (y 3).f, .int .i64 (y 3).t, .int .i64 (y 3).e, .int .i64 thr, .int .i64 tt.f, .int .i64 tt.t, .int .i64 tt.e, .int .i64 od.f, .int .i64 od.t, .int .i64 od.e, olds, all] := by rw [hW18]; exact (BL.alloc Bw14_RB _)
  have BW18_H : BL W18 (w14.heap.size) 96 [.int .i64 c, .int .i64 ag, .int .i64 0, .bool mk, .bool fi, .bool dn] := by rw [hW18]; exact (BL.new1 _ _ _ [.int .i64 c, .int .i64 ag, .int .i64 0, .bool mk, .bool fi, .bool dn] _ (by simp) rfl)
  have zW18 : w14.heap.size + 1 ≤ W18.heap.size := by rw [hW18]; simp
  have SW18 := St.aside Sw14 (show Touch (fun k => w.heap.size ≤ k ∨ k = rb) w14 W18 by rw [hW18]; exact ((Touch.refl _ w14).alloc _)) HN.out HR_.out
  clear l15 c16 c17 Sw14 Bw14_RB Kw14 hW18
  have l19 := BW18_RB.lt
  have l20 := BW18_H.lt
  refine Calls.mono (HSz.out _ SW18) ?_
  rintro e w21 ⟨rfl, kw21⟩
  have Kw21 := Touch.trans KW18 kw21 (fun _ e _ => e.elim)
  have Bw21_RB := BL.keep BW18_RB kw21
  have Bw21_H := BL.keep BW18_H kw21
  have zw21 := kw21.size
  have Sw21 := St.keep SW18 kw21
  clear l19 l20 SW18 BW18_RB BW18_H KW18 kw21
  have l22 := Bw21_RB.lt
  have l23 := Bw21_H.lt
  have c24 : w21.cell? ⟨rb, 16, none⟩ = some (.int .i64 tt.f) := Bw21_RB.c 16 _ rfl
  have c25 : w21.cell? ⟨rb, 17, none⟩ = some (.int .i64 tt.t) := Bw21_RB.c 17 _ rfl
  have c26 : w21.cell? ⟨rb, 18, none⟩ = some (.int .i64 tt.e) := Bw21_RB.c 18 _ rfl
  go_wp2_with fail
  refine Calls.mono (HT.out _) ?_
  rintro e w27 ⟨rfl, kw27⟩
  have Kw27 := Touch.trans Kw21 kw27 (fun _ e _ => e.elim)
  have Bw27_RB := BL.keep Bw21_RB kw27
  have Bw27_H := BL.keep Bw21_H kw27
  have zw27 := kw27.size
  have Sw27 := St.keep Sw21 kw27
  clear l22 l23 c24 c25 c26 Sw21 Bw21_RB Bw21_H Kw21 kw27
  have l28 := Bw27_RB.lt
  have l29 := Bw27_H.lt
  have c30 : w27.cell? ⟨w14.heap.size, 0, none⟩ = some (.int .i64 c) := Bw27_H.c 0 _ rfl
  have c31 : w27.cell? ⟨w14.heap.size, 1, none⟩ = some (.int .i64 ag) := Bw27_H.c 1 _ rfl
  have c32 : w27.cell? ⟨w14.heap.size, 2, none⟩ = some (.int .i64 0) := Bw27_H.c 2 _ rfl
  have c33 : w27.cell? ⟨w14.heap.size, 3, none⟩ = some (.bool mk) := Bw27_H.c 3 _ rfl
  have c34 : w27.cell? ⟨w14.heap.size, 4, none⟩ = some (.bool fi) := Bw27_H.c 4 _ rfl
  have c35 : w27.cell? ⟨w14.heap.size, 5, none⟩ = some (.bool dn) := Bw27_H.c 5 _ rfl
  have f36 := Bw27_H.fz 3
  go_wp2_with fail
  refine named (fun W37 hW37 => ?_)
  have KW37 : Touch (fun k => k = rb ∨ k = bw) w W37 := by rw [hW37]; exact ((Touch.setCell Kw27 (fun hlt => absurd hlt (by show ¬ (w14.heap.size < w.heap.size); omega)) _).alloc _)
  have BW37_RB : BL W37 (rb) 70 [.pointer (some ⟨ba, 0, none⟩), .pointer (some ⟨ba, 0, none⟩), .pointer (some ⟨bt, 0, none⟩), .int .i64 (y 0).f, .int .i64 (y 0).t, .int .i64 (y 0).e, .int .i64 (y 1).f, .int .i64 (y 1).t, .int .i64 (y 1).e, .int .i64 (y 2).f, .int .i64 (y 2).t, .int .i64 (y 2).e, .int .i64 (y 3).f, .int .i64 (y 3).t, .int .i64 (y 3).e, .int .i64 thr, .int .i64 tt.f, .int .i64 tt.t, .int .i64 tt.e, .int .i64 od.f, .int .i64 od.t, .int .i64 od.e, olds, all] := by rw [hW37]; exact (BL.alloc (BL.other Bw27_RB (by show rb ≠ w14.heap.size; omega) _) _)
  have BW37_H : BL W37 (w14.heap.size) 96 [.int .i64 c, .int .i64 ag, .int .i64 0, .bool false, .bool fi, .bool dn] := by rw [hW37]; exact (BL.alloc (BL.set Bw27_H 3 (.bool false)) _)
  have BW37_L : BL W37 (w27.heap.size) 36 [.int .i64 0, .int .i64 0, .int .i64 0] := by rw [hW37]; exact (BL.new1 _ _ _ [.int .i64 0, .int .i64 0, .int .i64 0] _ (by simp) rfl)
  have zW37 : w27.heap.size + 1 ≤ W37.heap.size := by rw [hW37]; simp
  have SW37 := St.aside Sw27 (show Touch (fun k => w.heap.size ≤ k ∨ k = rb) w27 W37 by rw [hW37]; exact ((Touch.setCell (Touch.refl _ w27) (fun _ => .inl (by show w.heap.size ≤ w14.heap.size; omega)) _).alloc _)) HN.out HR_.out
  clear l28 l29 c30 c31 c32 c33 c34 c35 f36 Sw27 Bw27_RB Bw27_H Kw27 hW37
  have l38 := BW37_RB.lt
  have l39 := BW37_H.lt
  have l40 := BW37_L.lt
  refine Calls.mono (HOl.out _) ?_
  rintro e w41 ⟨rfl, kw41⟩
  have Kw41 := Touch.trans KW37 kw41 (fun _ e _ => e.elim)
  have Bw41_RB := BL.keep BW37_RB kw41
  have Bw41_H := BL.keep BW37_H kw41
  have Bw41_L := BL.keep BW37_L kw41
  have zw41 := kw41.size
  have Sw41 := St.keep SW37 kw41
  clear l38 l39 l40 SW37 BW37_RB BW37_H BW37_L KW37 kw41
  have l42 := Bw41_RB.lt
  have l43 := Bw41_H.lt
  have l44 := Bw41_L.lt
  have c45 : w41.cell? ⟨rb, 15, none⟩ = some (.int .i64 thr) := Bw41_RB.c 15 _ rfl
  have c46 : w41.cell? ⟨w14.heap.size, 1, none⟩ = some (.int .i64 ag) := Bw41_H.c 1 _ rfl
  go_wp2_with fail
  refine named_code (fun W47 hW47 => ?_)
  have KW47 : Touch (fun k => k = rb ∨ k = bw) w W47 := by rw [hW47]; exact (Kw41.alloc _)
  have BW47_RB : BL W47 (rb) 70 [.pointer (some ⟨ba, 0, none⟩), .pointer (some ⟨ba, 0, none⟩), .pointer (some ⟨bt, 0, none⟩), .int .i64 (y 0).f, .int .i64 (y 0).t, .int .i64 (y 0).e, .int .i64 (y 1).f, .int .i64 (y 1).t, .int .i64 (y 1).e, .int .i64 (y 2).f, .int .i64 (y 2).t, .int .i64 (y 2).e, .int .i64 (y 3).f, .int .i64 (y 3).t, .int .i64 (y 3).e, .int .i64 thr, .int .i64 tt.f, .int .i64 tt.t, .int .i64 tt.e, .int .i64 od.f, .int .i64 od.t, .int .i64 od.e, olds, all] := by rw [hW47]; exact (BL.alloc Bw41_RB _)
  have BW47_H : BL W47 (w14.heap.size) 96 [.int .i64 c, .int .i64 ag, .int .i64 0, .bool false, .bool fi, .bool dn] := by rw [hW47]; exact (BL.alloc Bw41_H _)
  have BW47_M : BL W47 (w41.heap.size) 96 [.int .i64 c, .int .i64 ag2, .int .i64 0, .bool false, .bool fi, .bool dn] := by rw [hW47]; exact (BL.new1 _ _ _ [.int .i64 c, .int .i64 ag2, .int .i64 0, .bool false, .bool fi, .bool dn] _ (by simp) rfl)
  have zW47 : w41.heap.size + 1 ≤ W47.heap.size := by rw [hW47]; simp
  have SW47 := St.aside Sw41 (show Touch (fun k => w.heap.size ≤ k ∨ k = rb) w41 W47 by rw [hW47]; exact ((Touch.refl _ w41).alloc _)) HN.out HR_.out
  clear l42 l43 l44 c45 c46 Sw41 Bw41_RB Bw41_H Bw41_L Kw41 hW47
  have l48 := BW47_RB.lt
  have l49 := BW47_H.lt
  have l50 := BW47_M.lt
  have c51 : W47.cell? ⟨rb, 0, none⟩ = some (.pointer (some ⟨ba, 0, none⟩)) := BW47_RB.c 0 _ rfl
  have c52 : W47.cell? ⟨rb, 15, none⟩ = some (.int .i64 thr) := BW47_RB.c 15 _ rfl
  have c53 : W47.cell? ⟨rb, 19, none⟩ = some (.int .i64 od.f) := BW47_RB.c 19 _ rfl
  have c54 : W47.cell? ⟨rb, 20, none⟩ = some (.int .i64 od.t) := BW47_RB.c 20 _ rfl
  have c55 : W47.cell? ⟨rb, 21, none⟩ = some (.int .i64 od.e) := BW47_RB.c 21 _ rfl
  have c56 : W47.cell? ⟨w14.heap.size, 1, none⟩ = some (.int .i64 ag) := BW47_H.c 1 _ rfl
  go_quiet (fail)
  go_wp2_with fail
  refine named (fun W57 hW57 => ?_)
  have KW57 : Touch (fun k => k = rb ∨ k = bw) w W57 := by rw [hW57]; exact (KW47.drewN _)
  have BW57_RB : BL W57 (rb) 70 [.pointer (some ⟨ba, 0, none⟩), .pointer (some ⟨ba, 0, none⟩), .pointer (some ⟨bt, 0, none⟩), .int .i64 (y 0).f, .int .i64 (y 0).t, .int .i64 (y 0).e, .int .i64 (y 1).f, .int .i64 (y 1).t, .int .i64 (y 1).e, .int .i64 (y 2).f, .int .i64 (y 2).t, .int .i64 (y 2).e, .int .i64 (y 3).f, .int .i64 (y 3).t, .int .i64 (y 3).e, .int .i64 thr, .int .i64 tt.f, .int .i64 tt.t, .int .i64 tt.e, .int .i64 od.f, .int .i64 od.t, .int .i64 od.e, olds, all] := by rw [hW57]; exact (BL.drewN _ BW47_RB)
  have BW57_H : BL W57 (w14.heap.size) 96 [.int .i64 c, .int .i64 ag, .int .i64 0, .bool false, .bool fi, .bool dn] := by rw [hW57]; exact (BL.drewN _ BW47_H)
  have BW57_M : BL W57 (w41.heap.size) 96 [.int .i64 c, .int .i64 ag2, .int .i64 0, .bool false, .bool fi, .bool dn] := by rw [hW57]; exact (BL.drewN _ BW47_M)
  have zW57 : W47.heap.size + 0 ≤ W57.heap.size := by rw [hW57]; simp
  have SW57 := St.aside SW47 (show Touch (fun k => w.heap.size ≤ k ∨ k = rb) W47 W57 by rw [hW57]; exact ((Touch.refl _ W47).drewN _)) HN.out HR_.out
  clear l48 l49 l50 c51 c52 c53 c54 c55 c56 SW47 BW47_RB BW47_H BW47_M KW47 hW57
  have l58 := BW57_RB.lt
  have l59 := BW57_H.lt
  have l60 := BW57_M.lt
  refine Calls.mono (HT2.out _) ?_
  rintro e w61 ⟨rfl, kw61⟩
  have Kw61 := Touch.trans KW57 kw61 (fun _ e _ => e.elim)
  have Bw61_RB := BL.keep BW57_RB kw61
  have Bw61_H := BL.keep BW57_H kw61
  have Bw61_M := BL.keep BW57_M kw61
  have zw61 := kw61.size
  have Sw61 := St.keep SW57 kw61
  clear l58 l59 l60 SW57 BW57_RB BW57_H BW57_M KW57 kw61
  have l62 := Bw61_RB.lt
  have l63 := Bw61_H.lt
  have l64 := Bw61_M.lt
  have c65 : w61.cell? ⟨rb, 0, none⟩ = some (.pointer (some ⟨ba, 0, none⟩)) := Bw61_RB.c 0 _ rfl
  have c66 : w61.cell? ⟨rb, 19, none⟩ = some (.int .i64 od.f) := Bw61_RB.c 19 _ rfl
  have c67 : w61.cell? ⟨rb, 20, none⟩ = some (.int .i64 od.t) := Bw61_RB.c 20 _ rfl
  have c68 : w61.cell? ⟨rb, 21, none⟩ = some (.int .i64 od.e) := Bw61_RB.c 21 _ rfl
  have f69 := Bw61_RB.fz 19
  have f70 := Bw61_RB.fz 20
  have f71 := Bw61_RB.fz 21
  have c72 : w61.cell? ⟨w14.heap.size, 0, none⟩ = some (.int .i64 c) := Bw61_H.c 0 _ rfl
  have c73 : w61.cell? ⟨w14.heap.size, 1, none⟩ = some (.int .i64 ag) := Bw61_H.c 1 _ rfl
  have c74 : w61.cell? ⟨w14.heap.size, 2, none⟩ = some (.int .i64 0) := Bw61_H.c 2 _ rfl
  have c75 : w61.cell? ⟨w14.heap.size, 3, none⟩ = some (.bool false) := Bw61_H.c 3 _ rfl
  have c76 : w61.cell? ⟨w14.heap.size, 4, none⟩ = some (.bool fi) := Bw61_H.c 4 _ rfl
  have c77 : w61.cell? ⟨w14.heap.size, 5, none⟩ = some (.bool dn) := Bw61_H.c 5 _ rfl
  go_wp2_with (first | (refine store_bl ?_ 96 (.tmp 13) (.tmp 85) ?_ (BL.other (BL.other (BL.other Bw61_M (by show w41.heap.size ≠ rb; omega) _) (by show w41.heap.size ≠ rb; omega) _) (by show w41.heap.size ≠ rb; omega) _) ?_ [.int .i64 c, .int .i64 ag, .int .i64 0, .bool false, .bool fi, .bool dn] ?_ sz_hd rfl rfl ?_; rfl; rfl; rfl; rfl; intro W78 BW78_M kW78; have KW78 := Touch.trans (Touch.setCell (Touch.setCell (Touch.setCell Kw61 (fun _ => .inl rfl) _) (fun _ => .inl rfl) _) (fun _ => .inl rfl) _) kW78 (fun x e hx => absurd hx (by have := e; omega)); have BW78_RB := BL.touch (BL.set (BL.set (BL.set Bw61_RB 19 (.int .i64 od.f)) 20 (.int .i64 (od.t + k))) 21 (.int .i64 od.e)) kW78 (by show ¬ (rb = w41.heap.size); omega); have BW78_H := BL.touch (BL.other (BL.other (BL.other Bw61_H (by show w14.heap.size ≠ rb; omega) _) (by show w14.heap.size ≠ rb; omega) _) (by show w14.heap.size ≠ rb; omega) _) kW78 (by show ¬ (w14.heap.size = w41.heap.size); omega); have zW78 : w61.heap.size + 0 ≤ W78.heap.size := Nat.le_trans (by simp) kW78.size; have SW78 := St.aside Sw61 (Touch.trans (show Touch (fun k => w.heap.size ≤ k ∨ k = rb) w61 _ from (Touch.setCell (Touch.setCell (Touch.setCell (Touch.refl _ w61) (fun _ => .inr rfl) _) (fun _ => .inr rfl) _) (fun _ => .inr rfl) _)) kW78 (fun x e _ => .inl (by have := e; omega))) HN.out HR_.out; clear l62 l63 l64 c65 c66 c67 c68 f69 f70 f71 c72 c73 c74 c75 c76 c77 Bw61_RB Bw61_H Bw61_M Kw61 kW78 Sw61; have l79 := BW78_M.lt; have l80 := BW78_RB.lt; have l81 := BW78_H.lt; have c82 : W78.cell? ⟨rb, 0, none⟩ = some (.pointer (some ⟨ba, 0, none⟩)) := BW78_RB.c 0 _ rfl))
  refine Calls.mono (HMv.out _ SW78.ar) ?_
  rintro e w83 ⟨rfl, aw83, ow83⟩
  have Kw83 := Touch.trans KW78 ow83 (fun _ e _ => .inr e)
  have Sw83 := St.only SW78 aw83 ow83
  have Bw83_RB := BL.touch BW78_RB ow83 (by show ¬ (rb = bw); omega)
  have Bw83_H := BL.touch BW78_H ow83 (by show ¬ (w14.heap.size = bw); omega)
  have Bw83_M := BL.touch BW78_M ow83 (by show ¬ (w41.heap.size = bw); omega)
  have zw83 := ow83.size
  clear l79 l80 l81 c82 BW78_RB BW78_H BW78_M KW78 ow83 aw83 SW78
  have l84 := Bw83_RB.lt
  have l85 := Bw83_H.lt
  have l86 := Bw83_M.lt
  have c87 : w83.cell? ⟨rb, 1, none⟩ = some (.pointer (some ⟨ba, 0, none⟩)) := Bw83_RB.c 1 _ rfl
  have c88 : w83.cell? ⟨rb, 2, none⟩ = some (.pointer (some ⟨bt, 0, none⟩)) := Bw83_RB.c 2 _ rfl
  have c89 : w83.cell? ⟨w41.heap.size, 0, none⟩ = some (.int .i64 c) := Bw83_M.c 0 _ rfl
  have c90 : w83.cell? ⟨w41.heap.size, 1, none⟩ = some (.int .i64 ag) := Bw83_M.c 1 _ rfl
  have c91 : w83.cell? ⟨w41.heap.size, 2, none⟩ = some (.int .i64 0) := Bw83_M.c 2 _ rfl
  have c92 : w83.cell? ⟨w41.heap.size, 3, none⟩ = some (.bool false) := Bw83_M.c 3 _ rfl
  have c93 : w83.cell? ⟨w41.heap.size, 4, none⟩ = some (.bool fi) := Bw83_M.c 4 _ rfl
  have c94 : w83.cell? ⟨w41.heap.size, 5, none⟩ = some (.bool dn) := Bw83_M.c 5 _ rfl
  go_wp2_with fail
  clear l84 l85 l86 c87 c88 c89 c90 c91 c92 c93 c94
  have l95 := Bw83_RB.lt
  have l96 := Bw83_H.lt
  have l97 := Bw83_M.lt
  have d1 := Bw83_RB.c 1 _ rfl
  have d2 := Bw83_RB.c 2 _ rfl
  have e0 := Bw83_M.c 0 _ rfl
  have e1 := Bw83_M.c 1 _ rfl
  have e2 := Bw83_M.c 2 _ rfl
  have e3 := Bw83_M.c 3 _ rfl
  have e4 := Bw83_M.c 4 _ rfl
  have e5 := Bw83_M.c 5 _ rfl
  refine wp_region_noPanic ?_
  refine wp_region_held_drew (S := (fun w' => Only bw w83 w')) (by kernel_rfl) (Only.refl _ w83).drew (fun hHeld => ?_)
  refine' wpAnyH_take (i := 0) ?hi0_3 ?hs0_3 ?hf0_3 ?hr0_3 ?hQ0_3 ?hy0_3 (by assumption) ?rest0_3
  case hi0_3 => simp only [List.getElem?_toArray, List.getElem?_cons_zero] <;> rfl
  case hs0_3 => kernel_rfl
  case hf0_3 => kernel_rfl
  case hr0_3 => kernel_rfl
  case hQ0_3 => exact fun _ _ _ h => h
  case hy0_3 => exact Or.inl ⟨by rfl, fun w hSw => by have q1 := cell_only d1 hSw (by show rb ≠ bw; omega); have q2 := cell_only d2 hSw (by show rb ≠ bw; omega); have p0 := cell_only e0 hSw (by show w41.heap.size ≠ bw; omega); have p1 := cell_only e1 hSw (by show w41.heap.size ≠ bw; omega); have p2 := cell_only e2 hSw (by show w41.heap.size ≠ bw; omega); have p3 := cell_only e3 hSw (by show w41.heap.size ≠ bw; omega); have p4 := cell_only e4 hSw (by show w41.heap.size ≠ bw; omega); have p5 := cell_only e5 hSw (by show w41.heap.size ≠ bw; omega); go_simp <;> (try with_reducible rfl)⟩
  simp only [Act.put, List.setIfInBounds_toArray, List.set_cons_zero, List.set_cons_succ]
  refine' wpAnyH_take (i := 1) ?hi1_3 ?hs1_3 ?hf1_3 ?hr1_3 ?hQ1_3 ?hy1_3 (by assumption) ?rest1_3
  case hi1_3 => simp only [List.getElem?_toArray, List.getElem?_cons_succ, List.getElem?_cons_zero] <;> rfl
  case hs1_3 => kernel_rfl
  case hf1_3 => kernel_rfl
  case hr1_3 => kernel_rfl
  case hQ1_3 => exact fun _ _ _ h => h
  case hy1_3 => exact Or.inl ⟨by rfl, fun w hSw => by have q1 := cell_only d1 hSw (by show rb ≠ bw; omega); have q2 := cell_only d2 hSw (by show rb ≠ bw; omega); have p0 := cell_only e0 hSw (by show w41.heap.size ≠ bw; omega); have p1 := cell_only e1 hSw (by show w41.heap.size ≠ bw; omega); have p2 := cell_only e2 hSw (by show w41.heap.size ≠ bw; omega); have p3 := cell_only e3 hSw (by show w41.heap.size ≠ bw; omega); have p4 := cell_only e4 hSw (by show w41.heap.size ≠ bw; omega); have p5 := cell_only e5 hSw (by show w41.heap.size ≠ bw; omega); go_simp <;> (try with_reducible rfl)⟩
  simp only [Act.put, List.setIfInBounds_toArray, List.set_cons_zero, List.set_cons_succ]
  refine' wpAnyH_take (i := 2) ?hi2_3 ?hs2_3 ?hf2_3 ?hr2_3 ?hQ2_3 ?hy2_3 (by assumption) ?rest2_3
  case hi2_3 => simp only [List.getElem?_toArray, List.getElem?_cons_succ, List.getElem?_cons_zero] <;> rfl
  case hs2_3 => kernel_rfl
  case hf2_3 => kernel_rfl
  case hr2_3 => kernel_rfl
  case hQ2_3 => exact fun _ _ _ h => h
  case hy2_3 => exact Or.inl ⟨by rfl, fun w hSw => by have q1 := cell_only d1 hSw (by show rb ≠ bw; omega); have q2 := cell_only d2 hSw (by show rb ≠ bw; omega); have p0 := cell_only e0 hSw (by show w41.heap.size ≠ bw; omega); have p1 := cell_only e1 hSw (by show w41.heap.size ≠ bw; omega); have p2 := cell_only e2 hSw (by show w41.heap.size ≠ bw; omega); have p3 := cell_only e3 hSw (by show w41.heap.size ≠ bw; omega); have p4 := cell_only e4 hSw (by show w41.heap.size ≠ bw; omega); have p5 := cell_only e5 hSw (by show w41.heap.size ≠ bw; omega); go_simp <;> (try with_reducible rfl)⟩
  simp only [Act.put, List.setIfInBounds_toArray, List.set_cons_zero, List.set_cons_succ]
  refine' wpAnyH_take (i := 3) ?hi3_3 ?hs3_3 ?hf3_3 ?hr3_3 ?hQ3_3 ?hy3_3 (by assumption) ?rest3_3
  case hi3_3 => simp only [List.getElem?_toArray, List.getElem?_cons_succ, List.getElem?_cons_zero] <;> rfl
  case hs3_3 => kernel_rfl
  case hf3_3 => kernel_rfl
  case hr3_3 => kernel_rfl
  case hQ3_3 => exact fun _ _ _ h => h
  case hy3_3 => exact Or.inl ⟨by rfl, fun w hSw => by have q1 := cell_only d1 hSw (by show rb ≠ bw; omega); have q2 := cell_only d2 hSw (by show rb ≠ bw; omega); have p0 := cell_only e0 hSw (by show w41.heap.size ≠ bw; omega); have p1 := cell_only e1 hSw (by show w41.heap.size ≠ bw; omega); have p2 := cell_only e2 hSw (by show w41.heap.size ≠ bw; omega); have p3 := cell_only e3 hSw (by show w41.heap.size ≠ bw; omega); have p4 := cell_only e4 hSw (by show w41.heap.size ≠ bw; omega); have p5 := cell_only e5 hSw (by show w41.heap.size ≠ bw; omega); go_simp <;> (try with_reducible rfl)⟩
  simp only [Act.put, List.setIfInBounds_toArray, List.set_cons_zero, List.set_cons_succ]
  refine' wpAnyH_take (i := 4) ?hi4_3 ?hs4_3 ?hf4_3 ?hr4_3 ?hQ4_3 ?hy4_3 (by assumption) ?rest4_3
  case hi4_3 => simp only [List.getElem?_toArray, List.getElem?_cons_succ, List.getElem?_cons_zero] <;> rfl
  case hs4_3 => kernel_rfl
  case hf4_3 => kernel_rfl
  case hr4_3 => kernel_rfl
  case hQ4_3 => exact fun _ _ _ h => h
  case hy4_3 => exact Or.inl ⟨by rfl, fun w hSw => by have q1 := cell_only d1 hSw (by show rb ≠ bw; omega); have q2 := cell_only d2 hSw (by show rb ≠ bw; omega); have p0 := cell_only e0 hSw (by show w41.heap.size ≠ bw; omega); have p1 := cell_only e1 hSw (by show w41.heap.size ≠ bw; omega); have p2 := cell_only e2 hSw (by show w41.heap.size ≠ bw; omega); have p3 := cell_only e3 hSw (by show w41.heap.size ≠ bw; omega); have p4 := cell_only e4 hSw (by show w41.heap.size ≠ bw; omega); have p5 := cell_only e5 hSw (by show w41.heap.size ≠ bw; omega); go_simp <;> (try with_reducible rfl)⟩
  simp only [Act.put, List.setIfInBounds_toArray, List.set_cons_zero, List.set_cons_succ]
  refine' wpAnyH_take (i := 5) ?hi5_3 ?hs5_3 ?hf5_3 ?hr5_3 ?hQ5_3 ?hy5_3 (by assumption) ?rest5_3
  case hi5_3 => simp only [List.getElem?_toArray, List.getElem?_cons_succ, List.getElem?_cons_zero] <;> rfl
  case hs5_3 => kernel_rfl
  case hf5_3 => kernel_rfl
  case hr5_3 => kernel_rfl
  case hQ5_3 => exact fun _ _ _ h => h
  case hy5_3 => exact Or.inl ⟨by rfl, fun w hSw => by have q1 := cell_only d1 hSw (by show rb ≠ bw; omega); have q2 := cell_only d2 hSw (by show rb ≠ bw; omega); have p0 := cell_only e0 hSw (by show w41.heap.size ≠ bw; omega); have p1 := cell_only e1 hSw (by show w41.heap.size ≠ bw; omega); have p2 := cell_only e2 hSw (by show w41.heap.size ≠ bw; omega); have p3 := cell_only e3 hSw (by show w41.heap.size ≠ bw; omega); have p4 := cell_only e4 hSw (by show w41.heap.size ≠ bw; omega); have p5 := cell_only e5 hSw (by show w41.heap.size ≠ bw; omega); go_simp <;> (try with_reducible rfl)⟩
  simp only [Act.put, List.setIfInBounds_toArray, List.set_cons_zero, List.set_cons_succ]
  refine wpAnyH_ready (rs := [6]) (by kernel_rfl) (by simp) ?_
  refine AllReadyH.cons rfl (fun K hK => ?_) AllReadyH.nil
  go_simp
  with_reducible refine Calls.mono (HS1.out _ (St.keep Sw83 (Touch.drew (Touch.refl (fun _ => False) w83)))) ?_
  rintro e w98 ⟨rfl, Sw98, ow98⟩
  go_wp2_with fail
  refine hK.out _ _ (hHeld.trans_ ow98) (fun hHeld => ?_)
  clear hK K
  refine wpAnyH_done (by kernel_rfl) ?_ _
  refine NoPanic.normal ?_
  have ow98_ : Only bw w83 w98 := hHeld
  clear hHeld d1 d2 e0 e1 e2 e3 e4 e5 ow98
  have Kw98 := Touch.trans Kw83 ow98_ (fun _ e _ => .inr e)
  have Bw98_RB := BL.touch Bw83_RB ow98_ (by show ¬ (rb = bw); omega)
  have Bw98_H := BL.touch Bw83_H ow98_ (by show ¬ (w14.heap.size = bw); omega)
  have zw98 := ow98_.size
  clear l95 l96 l97 Bw83_RB Bw83_H Bw83_M Kw83 ow98_ Sw83
  have l99 := Bw98_RB.lt
  have l100 := Bw98_H.lt
  have c101 : w98.cell? ⟨w14.heap.size, 2, none⟩ = some (.int .i64 0) := Bw98_H.c 2 _ rfl
  have f102 := Bw98_H.fz 2
  go_wp2_with fail
  refine named_code (fun W103 hW103 => ?_)
  have KW103 : Touch (fun k => k = rb ∨ k = bw) w W103 := by rw [hW103]; exact (Touch.setCell Kw98 (fun hlt => absurd hlt (by show ¬ (w14.heap.size < w.heap.size); omega)) _)
  have BW103_RB : BL W103 (rb) 70 [.pointer (some ⟨ba, 0, none⟩), .pointer (some ⟨ba, 0, none⟩), .pointer (some ⟨bt, 0, none⟩), .int .i64 (y 0).f, .int .i64 (y 0).t, .int .i64 (y 0).e, .int .i64 (y 1).f, .int .i64 (y 1).t, .int .i64 (y 1).e, .int .i64 (y 2).f, .int .i64 (y 2).t, .int .i64 (y 2).e, .int .i64 (y 3).f, .int .i64 (y 3).t, .int .i64 (y 3).e, .int .i64 thr, .int .i64 tt.f, .int .i64 tt.t, .int .i64 tt.e, .int .i64 od.f, .int .i64 (od.t + k), .int .i64 od.e, olds, all] := by rw [hW103]; exact (BL.other Bw98_RB (by show rb ≠ w14.heap.size; omega) _)
  have BW103_H : BL W103 (w14.heap.size) 96 [.int .i64 c, .int .i64 ag, .int .i64 od.t, .bool false, .bool fi, .bool dn] := by rw [hW103]; exact (BL.set Bw98_H 2 (.int .i64 od.t))
  have zW103 : w98.heap.size + 0 ≤ W103.heap.size := by rw [hW103]; simp
  have SW103 := St.aside Sw98 (show Touch (fun k => w.heap.size ≤ k ∨ k = rb) w98 W103 by rw [hW103]; exact (Touch.setCell (Touch.refl _ w98) (fun _ => .inl (by show w.heap.size ≤ w14.heap.size; omega)) _)) HN.out HR_.out
  clear l99 l100 c101 f102 Sw98 Bw98_RB Bw98_H Kw98 hW103
  have l104 := BW103_RB.lt
  have l105 := BW103_H.lt
  clear l104 l105
  have l106 := BW103_RB.lt
  have l107 := BW103_H.lt
  have d1 := BW103_RB.c 1 _ rfl
  have d2 := BW103_RB.c 2 _ rfl
  have e0 := BW103_H.c 0 _ rfl
  have e1 := BW103_H.c 1 _ rfl
  have e2 := BW103_H.c 2 _ rfl
  have e3 := BW103_H.c 3 _ rfl
  have e4 := BW103_H.c 4 _ rfl
  have e5 := BW103_H.c 5 _ rfl
  refine wp_region_noPanic ?_
  refine wp_region_held_drew (S := (fun w' => Only bw W103 w')) (by kernel_rfl) (Only.refl _ W103).drew (fun hHeld => ?_)
  refine' wpAnyH_take (i := 0) ?hi0_4 ?hs0_4 ?hf0_4 ?hr0_4 ?hQ0_4 ?hy0_4 (by assumption) ?rest0_4
  case hi0_4 => simp only [List.getElem?_toArray, List.getElem?_cons_zero] <;> rfl
  case hs0_4 => kernel_rfl
  case hf0_4 => kernel_rfl
  case hr0_4 => kernel_rfl
  case hQ0_4 => exact fun _ _ _ h => h
  case hy0_4 => exact Or.inl ⟨by rfl, fun w hSw => by have q1 := cell_only d1 hSw (by show rb ≠ bw; omega); have q2 := cell_only d2 hSw (by show rb ≠ bw; omega); have p0 := cell_only e0 hSw (by show w14.heap.size ≠ bw; omega); have p1 := cell_only e1 hSw (by show w14.heap.size ≠ bw; omega); have p2 := cell_only e2 hSw (by show w14.heap.size ≠ bw; omega); have p3 := cell_only e3 hSw (by show w14.heap.size ≠ bw; omega); have p4 := cell_only e4 hSw (by show w14.heap.size ≠ bw; omega); have p5 := cell_only e5 hSw (by show w14.heap.size ≠ bw; omega); go_simp <;> (try with_reducible rfl)⟩
  simp only [Act.put, List.setIfInBounds_toArray, List.set_cons_zero, List.set_cons_succ]
  refine' wpAnyH_take (i := 1) ?hi1_4 ?hs1_4 ?hf1_4 ?hr1_4 ?hQ1_4 ?hy1_4 (by assumption) ?rest1_4
  case hi1_4 => simp only [List.getElem?_toArray, List.getElem?_cons_succ, List.getElem?_cons_zero] <;> rfl
  case hs1_4 => kernel_rfl
  case hf1_4 => kernel_rfl
  case hr1_4 => kernel_rfl
  case hQ1_4 => exact fun _ _ _ h => h
  case hy1_4 => exact Or.inl ⟨by rfl, fun w hSw => by have q1 := cell_only d1 hSw (by show rb ≠ bw; omega); have q2 := cell_only d2 hSw (by show rb ≠ bw; omega); have p0 := cell_only e0 hSw (by show w14.heap.size ≠ bw; omega); have p1 := cell_only e1 hSw (by show w14.heap.size ≠ bw; omega); have p2 := cell_only e2 hSw (by show w14.heap.size ≠ bw; omega); have p3 := cell_only e3 hSw (by show w14.heap.size ≠ bw; omega); have p4 := cell_only e4 hSw (by show w14.heap.size ≠ bw; omega); have p5 := cell_only e5 hSw (by show w14.heap.size ≠ bw; omega); go_simp <;> (try with_reducible rfl)⟩
  simp only [Act.put, List.setIfInBounds_toArray, List.set_cons_zero, List.set_cons_succ]
  refine' wpAnyH_take (i := 2) ?hi2_4 ?hs2_4 ?hf2_4 ?hr2_4 ?hQ2_4 ?hy2_4 (by assumption) ?rest2_4
  case hi2_4 => simp only [List.getElem?_toArray, List.getElem?_cons_succ, List.getElem?_cons_zero] <;> rfl
  case hs2_4 => kernel_rfl
  case hf2_4 => kernel_rfl
  case hr2_4 => kernel_rfl
  case hQ2_4 => exact fun _ _ _ h => h
  case hy2_4 => exact Or.inl ⟨by rfl, fun w hSw => by have q1 := cell_only d1 hSw (by show rb ≠ bw; omega); have q2 := cell_only d2 hSw (by show rb ≠ bw; omega); have p0 := cell_only e0 hSw (by show w14.heap.size ≠ bw; omega); have p1 := cell_only e1 hSw (by show w14.heap.size ≠ bw; omega); have p2 := cell_only e2 hSw (by show w14.heap.size ≠ bw; omega); have p3 := cell_only e3 hSw (by show w14.heap.size ≠ bw; omega); have p4 := cell_only e4 hSw (by show w14.heap.size ≠ bw; omega); have p5 := cell_only e5 hSw (by show w14.heap.size ≠ bw; omega); go_simp <;> (try with_reducible rfl)⟩
  simp only [Act.put, List.setIfInBounds_toArray, List.set_cons_zero, List.set_cons_succ]
  refine' wpAnyH_take (i := 3) ?hi3_4 ?hs3_4 ?hf3_4 ?hr3_4 ?hQ3_4 ?hy3_4 (by assumption) ?rest3_4
  case hi3_4 => simp only [List.getElem?_toArray, List.getElem?_cons_succ, List.getElem?_cons_zero] <;> rfl
  case hs3_4 => kernel_rfl
  case hf3_4 => kernel_rfl
  case hr3_4 => kernel_rfl
  case hQ3_4 => exact fun _ _ _ h => h
  case hy3_4 => exact Or.inl ⟨by rfl, fun w hSw => by have q1 := cell_only d1 hSw (by show rb ≠ bw; omega); have q2 := cell_only d2 hSw (by show rb ≠ bw; omega); have p0 := cell_only e0 hSw (by show w14.heap.size ≠ bw; omega); have p1 := cell_only e1 hSw (by show w14.heap.size ≠ bw; omega); have p2 := cell_only e2 hSw (by show w14.heap.size ≠ bw; omega); have p3 := cell_only e3 hSw (by show w14.heap.size ≠ bw; omega); have p4 := cell_only e4 hSw (by show w14.heap.size ≠ bw; omega); have p5 := cell_only e5 hSw (by show w14.heap.size ≠ bw; omega); go_simp <;> (try with_reducible rfl)⟩
  simp only [Act.put, List.setIfInBounds_toArray, List.set_cons_zero, List.set_cons_succ]
  refine' wpAnyH_take (i := 4) ?hi4_4 ?hs4_4 ?hf4_4 ?hr4_4 ?hQ4_4 ?hy4_4 (by assumption) ?rest4_4
  case hi4_4 => simp only [List.getElem?_toArray, List.getElem?_cons_succ, List.getElem?_cons_zero] <;> rfl
  case hs4_4 => kernel_rfl
  case hf4_4 => kernel_rfl
  case hr4_4 => kernel_rfl
  case hQ4_4 => exact fun _ _ _ h => h
  case hy4_4 => exact Or.inl ⟨by rfl, fun w hSw => by have q1 := cell_only d1 hSw (by show rb ≠ bw; omega); have q2 := cell_only d2 hSw (by show rb ≠ bw; omega); have p0 := cell_only e0 hSw (by show w14.heap.size ≠ bw; omega); have p1 := cell_only e1 hSw (by show w14.heap.size ≠ bw; omega); have p2 := cell_only e2 hSw (by show w14.heap.size ≠ bw; omega); have p3 := cell_only e3 hSw (by show w14.heap.size ≠ bw; omega); have p4 := cell_only e4 hSw (by show w14.heap.size ≠ bw; omega); have p5 := cell_only e5 hSw (by show w14.heap.size ≠ bw; omega); go_simp <;> (try with_reducible rfl)⟩
  simp only [Act.put, List.setIfInBounds_toArray, List.set_cons_zero, List.set_cons_succ]
  refine' wpAnyH_take (i := 5) ?hi5_4 ?hs5_4 ?hf5_4 ?hr5_4 ?hQ5_4 ?hy5_4 (by assumption) ?rest5_4
  case hi5_4 => simp only [List.getElem?_toArray, List.getElem?_cons_succ, List.getElem?_cons_zero] <;> rfl
  case hs5_4 => kernel_rfl
  case hf5_4 => kernel_rfl
  case hr5_4 => kernel_rfl
  case hQ5_4 => exact fun _ _ _ h => h
  case hy5_4 => exact Or.inl ⟨by rfl, fun w hSw => by have q1 := cell_only d1 hSw (by show rb ≠ bw; omega); have q2 := cell_only d2 hSw (by show rb ≠ bw; omega); have p0 := cell_only e0 hSw (by show w14.heap.size ≠ bw; omega); have p1 := cell_only e1 hSw (by show w14.heap.size ≠ bw; omega); have p2 := cell_only e2 hSw (by show w14.heap.size ≠ bw; omega); have p3 := cell_only e3 hSw (by show w14.heap.size ≠ bw; omega); have p4 := cell_only e4 hSw (by show w14.heap.size ≠ bw; omega); have p5 := cell_only e5 hSw (by show w14.heap.size ≠ bw; omega); go_simp <;> (try with_reducible rfl)⟩
  simp only [Act.put, List.setIfInBounds_toArray, List.set_cons_zero, List.set_cons_succ]
  refine wpAnyH_ready (rs := [6]) (by kernel_rfl) (by simp) ?_
  refine AllReadyH.cons rfl (fun K hK => ?_) AllReadyH.nil
  go_simp
  with_reducible refine Calls.mono (HS2.out _ (St.keep SW103 (Touch.drew (Touch.refl (fun _ => False) W103)))) ?_
  rintro e w108 ⟨rfl, Sw108, ow108⟩
  go_wp2_with fail
  refine hK.out _ _ (hHeld.trans_ ow108) (fun hHeld => ?_)
  clear hK K
  refine wpAnyH_done (by kernel_rfl) ?_ _
  refine NoPanic.normal ?_
  have ow108_ : Only bw W103 w108 := hHeld
  clear hHeld d1 d2 e0 e1 e2 e3 e4 e5 ow108
  have Kw108 := Touch.trans KW103 ow108_ (fun _ e _ => .inr e)
  have Bw108_RB := BL.touch BW103_RB ow108_ (by show ¬ (rb = bw); omega)
  have zw108 := ow108_.size
  clear l106 l107 BW103_RB BW103_H KW103 ow108_ SW103
  have l109 := Bw108_RB.lt
  go_wp2_with fail
  go_ret
  exact ⟨rfl, ⟨Sw108, Bw108_RB, HR_.out⟩, Kw108⟩
set_option maxRecDepth 100000 in
set_option maxHeartbeats 2000000 in
theorem move_age {w : World} {ba bw n : Nat} {f : Nat → Int} {bt : Nat} {A : Option Addr} {m cap : Nat} {C : Nat → Cl} {rb : Nat} {y : Nat → Sp} {thr : Int} {tt od : Sp} {olds all : Value} (h : Rn w ba bw n f bt A m cap C rb y thr tt od olds all) (hm : 0 < m)
    {a c ag r d k : Int} {mk fi dn : Bool} (hat : atT n f m C a = (⟨⟨c, ag, 0, mk, fi, dn⟩, r, d, k⟩, 0)) (hc : c ≠ 0) (hok : (⟨c, ag, 0, mk, fi, dn⟩ : Hd).ok) (hk : 2 ≤ k) (hyg : ygB (y 1) (y 2) a = true) (ha : 1 ≤ a) (han : a + k ≤ n)
    (hb : 1 ≤ od.t) (hbn : od.t + k ≤ n) (hb4 : od.t < 4096) (hsep : od.t + k ≤ a ∨ a + k ≤ od.t) (ht : rightB tt = true) (ho : rightB od = true) (hyes : k ≤ tt.e - tt.t) (hag : thr ≤ ag) (hle : k ≤ od.e - od.t) :
    Calls Try.prog 25 #[.pointer (some ⟨rb, 0, none⟩), .int .i64 a] w fun e w' => e = .returned (.int .i64 od.t) ∧
      Rn w' ba bw n (mvF f a od.t k ⟨c, ag, 0, false, fi, dn⟩ (fwdH ⟨c, ag, 0, mk, fi, dn⟩ od.t)) bt A m cap C rb y thr tt { od with t := od.t + k } olds all ∧ Touch (fun k => k = rb ∨ k = bw) w w' := by
  have S0 := h.st
  have hR := h.blk
  have HR_ := Lib.hid h.ne
  have n1 := h.ne.2.1
  have hrl := h.blk.lt
  have hbl := S0.ar.lt2
  have HN := Lib.hid (S0.lows hm)
  have hz : (a == 0) = false := by simp; omega
  have HYc := Lib.hid (show YgC w rb (y 1) (y 2) from ⟨hR.c 6 _ rfl, hR.c 7 _ rfl, hR.c 8 _ rfl, hR.c 9 _ rfl, hR.c 10 _ rfl, hR.c 11 _ rfl⟩)
  have HY := Lib.hid (show ∀ w', YgC w' rb (y 1) (y 2) → Calls Try.prog 57 #[.pointer (some ⟨rb, 0, none⟩), .int .i64 a] w' fun e w2 => e = .returned (.bool true) ∧ Keeps w' w2 from fun w' q => by rw [← hyg]; exact young_any rb (y 1) (y 2) a w' q)
  have hobj : objP (atT n f m C a) = (⟨⟨c, ag, 0, mk, fi, dn⟩, r, d, k⟩, 0) := by rw [objP_same (by rw [hat]; exact fun q => hc q.2)]; exact hat
  have HHd := Lib.hid (show ∀ w', St w' ba bw n f bt A m cap C → Calls Try.prog 41 #[.agg #[.pointer (some ⟨ba, 0, none⟩), .pointer (some ⟨bt, 0, none⟩)], .int .i64 a] w' fun e w2 => e = .returned (.tuple #[.agg #[.int .i64 c, .int .i64 ag, .int .i64 0, .bool mk, .bool fi, .bool dn], .int .i64 0]) ∧ Keeps w' w2 from fun w' q => by
    have := ohead_any ba bw n f bt A m cap C w' q a
    rw [hobj] at this
    exact this)
  have HSz := Lib.hid (show ∀ w', St w' ba bw n f bt A m cap C → Calls Try.prog 58 #[.agg #[.pointer (some ⟨ba, 0, none⟩), .pointer (some ⟨bt, 0, none⟩)], .int .i64 a] w' fun e w2 => e = .returned (.tuple #[.int .i64 k, .bool (c != 0), .int .i64 0]) ∧ Keeps w' w2 from fun w' q => by
    have := size_any ba bw n f bt A m cap C w' q a
    rw [hat] at this
    exact this)
  have HT := Lib.hid (show ∀ w', Calls Try.prog 59 #[.agg #[.int .i64 tt.f, .int .i64 tt.t, .int .i64 tt.e], .int .i64 k] w' fun e w2 => e = .returned (.tuple #[.int .i64 tt.t, .agg #[.int .i64 tt.f, .int .i64 (tt.t + k), .int .i64 tt.e], .int .i64 0]) ∧ Keeps w' w2 from fun w' => by
    have := take_any tt k w' ht (by omega)
    rw [if_neg (by omega)] at this
    exact this)
  have HT2 := Lib.hid (show ∀ w', Calls Try.prog 59 #[.agg #[.int .i64 od.f, .int .i64 od.t, .int .i64 od.e], .int .i64 k] w' fun e w2 => e = .returned (.tuple #[.int .i64 od.t, .agg #[.int .i64 od.f, .int .i64 (od.t + k), .int .i64 od.e], .int .i64 0]) ∧ Keeps w' w2 from fun w' => by
    have := take_any od k w' ho (by omega)
    rw [if_neg (by omega)] at this
    exact this)
  obtain ⟨ag2, hag2⟩ : ∃ z, z = (if ag + 1 ≤ 7 then ag + 1 else 7) := ⟨_, rfl⟩
  have HOl := Lib.hid (show ∀ w', Calls Try.prog 60 #[.agg #[.int .i64 c, .int .i64 ag, .int .i64 0, .bool false, .bool fi, .bool dn]] w' fun e w2 => e = .returned (.agg #[.int .i64 c, .int .i64 ag2, .int .i64 0, .bool false, .bool fi, .bool dn]) ∧ Keeps w' w2 from fun w' => by
    rw [hag2]; exact older_any ⟨c, ag, 0, false, fi, dn⟩ (unm_ok hok) w')
  have HMv := Lib.hid (fun w' (q : Ar w' ba bw n f) => move_at ba bw n f w' q od.t a k (by omega) (by omega) (by omega) hbn han)
  have hk1 : (⟨c, ag, 0, false, fi, dn⟩ : Hd).ok := by exact unm_ok hok
  obtain ⟨m1, m2⟩ := move_mid hat hc hk ha hb hbn hsep
  have m3 := m2 ⟨c, ag, 0, false, fi, dn⟩ hk1 rfl
  have HS1 := Lib.hid (show ∀ w', St w' ba bw n (moveF f od.t a k) bt A m cap C → Calls Try.prog 42 #[.agg #[.pointer (some ⟨ba, 0, none⟩), .pointer (some ⟨bt, 0, none⟩)], .int .i64 od.t, .agg #[.int .i64 c, .int .i64 ag, .int .i64 0, .bool false, .bool fi, .bool dn]] w' fun e w2 => e = .returned (.int .i64 0) ∧ St w2 ba bw n (putF (moveF f od.t a k) (od.t).toNat (hdW ⟨c, ag, 0, false, fi, dn⟩)) bt A m cap C ∧ Only bw w' w2 from fun w' q =>
    sethead_yes ba bw n _ bt A m cap C w' q od.t ⟨c, ag, 0, false, fi, dn⟩ (by rw [objP_same (by rw [m1]; exact fun q => hc q.2), m1]) hk1 (by rw [objP_same (by rw [m1]; exact fun q => hc q.2), m1]))
  have HS2 := Lib.hid (show ∀ w', St w' ba bw n (putF (moveF f od.t a k) (od.t).toNat (hdW ⟨c, ag, 0, false, fi, dn⟩)) bt A m cap C → Calls Try.prog 42 #[.agg #[.pointer (some ⟨ba, 0, none⟩), .pointer (some ⟨bt, 0, none⟩)], .int .i64 a, .agg #[.int .i64 c, .int .i64 ag, .int .i64 od.t, .bool false, .bool fi, .bool dn]] w' fun e w2 => e = .returned (.int .i64 0) ∧ St w2 ba bw n (mvF f a od.t k ⟨c, ag, 0, false, fi, dn⟩ (fwdH ⟨c, ag, 0, mk, fi, dn⟩ od.t)) bt A m cap C ∧ Only bw w' w2 from fun w' q => by
    have e : (⟨c, ag, 0, false, fi, dn⟩ : Hd) = ⟨c, ag, 0, false, fi, dn⟩ := rfl
    rw [e]
    exact sethead_yes ba bw n _ bt A m cap C w' q a (fwdH ⟨c, ag, 0, mk, fi, dn⟩ od.t) (by rw [objP_same (by rw [m3]; exact fun q => hc q.2), m3]) (fwdH_ok hok (by omega) hb4) (by rw [objP_same (by rw [m3]; exact fun q => hc q.2), m3]; rfl))
  have K0 := Touch.refl (fun k => k = rb ∨ k = bw) w
  clear h hat hok hk1 m1 m2 m3 hobj hag2 hyg hsep ht ho hc
  unfold rnL at hR
  have l1 := hR.lt
  have c2 : w.cell? ⟨rb, 1, none⟩ = some (.pointer (some ⟨ba, 0, none⟩)) := hR.c 1 _ rfl
  have c3 : w.cell? ⟨rb, 2, none⟩ = some (.pointer (some ⟨bt, 0, none⟩)) := hR.c 2 _ rfl
  have c4 : w.cell? ⟨rb, 6, none⟩ = some (.int .i64 (y 1).f) := hR.c 6 _ rfl
  have c5 : w.cell? ⟨rb, 7, none⟩ = some (.int .i64 (y 1).t) := hR.c 7 _ rfl
  have c6 : w.cell? ⟨rb, 8, none⟩ = some (.int .i64 (y 1).e) := hR.c 8 _ rfl
  have c7 : w.cell? ⟨rb, 9, none⟩ = some (.int .i64 (y 2).f) := hR.c 9 _ rfl
  have c8 : w.cell? ⟨rb, 10, none⟩ = some (.int .i64 (y 2).t) := hR.c 10 _ rfl
  have c9 : w.cell? ⟨rb, 11, none⟩ = some (.int .i64 (y 2).e) := hR.c 11 _ rfl
  go_enter Try.func25, Try.ntmps25
  go_wp2_with fail
  refine Calls.mono (HY.out _ HYc.out) ?_
  rintro e w10 ⟨rfl, kw10⟩
  have Kw10 := Touch.trans K0 kw10 (fun _ e _ => e.elim)
  have Bw10_RB := BL.keep hR kw10
  have zw10 := kw10.size
  have Sw10 := St.keep S0 kw10
  clear l1 c2 c3 c4 c5 c6 c7 c8 c9 S0 hR K0 kw10
  have l11 := Bw10_RB.lt
  have c12 : w10.cell? ⟨rb, 1, none⟩ = some (.pointer (some ⟨ba, 0, none⟩)) := Bw10_RB.c 1 _ rfl
  have c13 : w10.cell? ⟨rb, 2, none⟩ = some (.pointer (some ⟨bt, 0, none⟩)) := Bw10_RB.c 2 _ rfl
  go_wp2_with fail
  refine Calls.mono (HHd.out _ Sw10) ?_
  rintro e w14 ⟨rfl, kw14⟩
  have Kw14 := Touch.trans Kw10 kw14 (fun _ e _ => e.elim)
  have Bw14_RB := BL.keep Bw10_RB kw14
  have zw14 := kw14.size
  have Sw14 := St.keep Sw10 kw14
  clear l11 c12 c13 Sw10 Bw10_RB Kw10 kw14
  have l15 := Bw14_RB.lt
  have c16 : w14.cell? ⟨rb, 1, none⟩ = some (.pointer (some ⟨ba, 0, none⟩)) := Bw14_RB.c 1 _ rfl
  have c17 : w14.cell? ⟨rb, 2, none⟩ = some (.pointer (some ⟨bt, 0, none⟩)) := Bw14_RB.c 2 _ rfl
  go_wp2_with fail
  refine named (fun W18 hW18 => ?_)
  have KW18 : Touch (fun k => k = rb ∨ k = bw) w W18 := by rw [hW18]; exact (Kw14.alloc _)
  have BW18_RB : BL W18 (rb) 70 [.pointer (some ⟨ba, 0, none⟩), .pointer (some ⟨ba, 0, none⟩), .pointer (some ⟨bt, 0, none⟩), .int .i64 (y 0).f, .int .i64 (y 0).t, .int .i64 (y 0).e, .int .i64 (y 1).f, .int .i64 (y 1).t, .int .i64 (y 1).e, .int .i64 (y 2).f, .int .i64 (y 2).t, .int .i64 (y 2).e, .int .i64 (y 3).f, .int .i64 (y 3).t, .int .i64 (y 3).e, .int .i64 thr, .int .i64 tt.f, .int .i64 tt.t, .int .i64 tt.e, .int .i64 od.f, .int .i64 od.t, .int .i64 od.e, olds, all] := by rw [hW18]; exact (BL.alloc Bw14_RB _)
  have BW18_H : BL W18 (w14.heap.size) 96 [.int .i64 c, .int .i64 ag, .int .i64 0, .bool mk, .bool fi, .bool dn] := by rw [hW18]; exact (BL.new1 _ _ _ [.int .i64 c, .int .i64 ag, .int .i64 0, .bool mk, .bool fi, .bool dn] _ (by simp) rfl)
  have zW18 : w14.heap.size + 1 ≤ W18.heap.size := by rw [hW18]; simp
  have SW18 := St.aside Sw14 (show Touch (fun k => w.heap.size ≤ k ∨ k = rb) w14 W18 by rw [hW18]; exact ((Touch.refl _ w14).alloc _)) HN.out HR_.out
  clear l15 c16 c17 Sw14 Bw14_RB Kw14 hW18
  have l19 := BW18_RB.lt
  have l20 := BW18_H.lt
  refine Calls.mono (HSz.out _ SW18) ?_
  rintro e w21 ⟨rfl, kw21⟩
  have Kw21 := Touch.trans KW18 kw21 (fun _ e _ => e.elim)
  have Bw21_RB := BL.keep BW18_RB kw21
  have Bw21_H := BL.keep BW18_H kw21
  have zw21 := kw21.size
  have Sw21 := St.keep SW18 kw21
  clear l19 l20 SW18 BW18_RB BW18_H KW18 kw21
  have l22 := Bw21_RB.lt
  have l23 := Bw21_H.lt
  have c24 : w21.cell? ⟨rb, 16, none⟩ = some (.int .i64 tt.f) := Bw21_RB.c 16 _ rfl
  have c25 : w21.cell? ⟨rb, 17, none⟩ = some (.int .i64 tt.t) := Bw21_RB.c 17 _ rfl
  have c26 : w21.cell? ⟨rb, 18, none⟩ = some (.int .i64 tt.e) := Bw21_RB.c 18 _ rfl
  go_wp2_with fail
  refine Calls.mono (HT.out _) ?_
  rintro e w27 ⟨rfl, kw27⟩
  have Kw27 := Touch.trans Kw21 kw27 (fun _ e _ => e.elim)
  have Bw27_RB := BL.keep Bw21_RB kw27
  have Bw27_H := BL.keep Bw21_H kw27
  have zw27 := kw27.size
  have Sw27 := St.keep Sw21 kw27
  clear l22 l23 c24 c25 c26 Sw21 Bw21_RB Bw21_H Kw21 kw27
  have l28 := Bw27_RB.lt
  have l29 := Bw27_H.lt
  have c30 : w27.cell? ⟨w14.heap.size, 0, none⟩ = some (.int .i64 c) := Bw27_H.c 0 _ rfl
  have c31 : w27.cell? ⟨w14.heap.size, 1, none⟩ = some (.int .i64 ag) := Bw27_H.c 1 _ rfl
  have c32 : w27.cell? ⟨w14.heap.size, 2, none⟩ = some (.int .i64 0) := Bw27_H.c 2 _ rfl
  have c33 : w27.cell? ⟨w14.heap.size, 3, none⟩ = some (.bool mk) := Bw27_H.c 3 _ rfl
  have c34 : w27.cell? ⟨w14.heap.size, 4, none⟩ = some (.bool fi) := Bw27_H.c 4 _ rfl
  have c35 : w27.cell? ⟨w14.heap.size, 5, none⟩ = some (.bool dn) := Bw27_H.c 5 _ rfl
  have f36 := Bw27_H.fz 3
  go_wp2_with fail
  refine named (fun W37 hW37 => ?_)
  have KW37 : Touch (fun k => k = rb ∨ k = bw) w W37 := by rw [hW37]; exact ((Touch.setCell Kw27 (fun hlt => absurd hlt (by show ¬ (w14.heap.size < w.heap.size); omega)) _).alloc _)
  have BW37_RB : BL W37 (rb) 70 [.pointer (some ⟨ba, 0, none⟩), .pointer (some ⟨ba, 0, none⟩), .pointer (some ⟨bt, 0, none⟩), .int .i64 (y 0).f, .int .i64 (y 0).t, .int .i64 (y 0).e, .int .i64 (y 1).f, .int .i64 (y 1).t, .int .i64 (y 1).e, .int .i64 (y 2).f, .int .i64 (y 2).t, .int .i64 (y 2).e, .int .i64 (y 3).f, .int .i64 (y 3).t, .int .i64 (y 3).e, .int .i64 thr, .int .i64 tt.f, .int .i64 tt.t, .int .i64 tt.e, .int .i64 od.f, .int .i64 od.t, .int .i64 od.e, olds, all] := by rw [hW37]; exact (BL.alloc (BL.other Bw27_RB (by show rb ≠ w14.heap.size; omega) _) _)
  have BW37_H : BL W37 (w14.heap.size) 96 [.int .i64 c, .int .i64 ag, .int .i64 0, .bool false, .bool fi, .bool dn] := by rw [hW37]; exact (BL.alloc (BL.set Bw27_H 3 (.bool false)) _)
  have BW37_L : BL W37 (w27.heap.size) 36 [.int .i64 tt.f, .int .i64 (tt.t + k), .int .i64 tt.e] := by rw [hW37]; exact (BL.new1 _ _ _ [.int .i64 tt.f, .int .i64 (tt.t + k), .int .i64 tt.e] _ (by simp) rfl)
  have zW37 : w27.heap.size + 1 ≤ W37.heap.size := by rw [hW37]; simp
  have SW37 := St.aside Sw27 (show Touch (fun k => w.heap.size ≤ k ∨ k = rb) w27 W37 by rw [hW37]; exact ((Touch.setCell (Touch.refl _ w27) (fun _ => .inl (by show w.heap.size ≤ w14.heap.size; omega)) _).alloc _)) HN.out HR_.out
  clear l28 l29 c30 c31 c32 c33 c34 c35 f36 Sw27 Bw27_RB Bw27_H Kw27 hW37
  have l38 := BW37_RB.lt
  have l39 := BW37_H.lt
  have l40 := BW37_L.lt
  refine Calls.mono (HOl.out _) ?_
  rintro e w41 ⟨rfl, kw41⟩
  have Kw41 := Touch.trans KW37 kw41 (fun _ e _ => e.elim)
  have Bw41_RB := BL.keep BW37_RB kw41
  have Bw41_H := BL.keep BW37_H kw41
  have Bw41_L := BL.keep BW37_L kw41
  have zw41 := kw41.size
  have Sw41 := St.keep SW37 kw41
  clear l38 l39 l40 SW37 BW37_RB BW37_H BW37_L KW37 kw41
  have l42 := Bw41_RB.lt
  have l43 := Bw41_H.lt
  have l44 := Bw41_L.lt
  have c45 : w41.cell? ⟨rb, 15, none⟩ = some (.int .i64 thr) := Bw41_RB.c 15 _ rfl
  have c46 : w41.cell? ⟨w14.heap.size, 1, none⟩ = some (.int .i64 ag) := Bw41_H.c 1 _ rfl
  go_wp2_with fail
  refine named_code (fun W47 hW47 => ?_)
  have KW47 : Touch (fun k => k = rb ∨ k = bw) w W47 := by rw [hW47]; exact (Kw41.alloc _)
  have BW47_RB : BL W47 (rb) 70 [.pointer (some ⟨ba, 0, none⟩), .pointer (some ⟨ba, 0, none⟩), .pointer (some ⟨bt, 0, none⟩), .int .i64 (y 0).f, .int .i64 (y 0).t, .int .i64 (y 0).e, .int .i64 (y 1).f, .int .i64 (y 1).t, .int .i64 (y 1).e, .int .i64 (y 2).f, .int .i64 (y 2).t, .int .i64 (y 2).e, .int .i64 (y 3).f, .int .i64 (y 3).t, .int .i64 (y 3).e, .int .i64 thr, .int .i64 tt.f, .int .i64 tt.t, .int .i64 tt.e, .int .i64 od.f, .int .i64 od.t, .int .i64 od.e, olds, all] := by rw [hW47]; exact (BL.alloc Bw41_RB _)
  have BW47_H : BL W47 (w14.heap.size) 96 [.int .i64 c, .int .i64 ag, .int .i64 0, .bool false, .bool fi, .bool dn] := by rw [hW47]; exact (BL.alloc Bw41_H _)
  have BW47_M : BL W47 (w41.heap.size) 96 [.int .i64 c, .int .i64 ag2, .int .i64 0, .bool false, .bool fi, .bool dn] := by rw [hW47]; exact (BL.new1 _ _ _ [.int .i64 c, .int .i64 ag2, .int .i64 0, .bool false, .bool fi, .bool dn] _ (by simp) rfl)
  have zW47 : w41.heap.size + 1 ≤ W47.heap.size := by rw [hW47]; simp
  have SW47 := St.aside Sw41 (show Touch (fun k => w.heap.size ≤ k ∨ k = rb) w41 W47 by rw [hW47]; exact ((Touch.refl _ w41).alloc _)) HN.out HR_.out
  clear l42 l43 l44 c45 c46 Sw41 Bw41_RB Bw41_H Bw41_L Kw41 hW47
  have l48 := BW47_RB.lt
  have l49 := BW47_H.lt
  have l50 := BW47_M.lt
  have c51 : W47.cell? ⟨rb, 0, none⟩ = some (.pointer (some ⟨ba, 0, none⟩)) := BW47_RB.c 0 _ rfl
  have c52 : W47.cell? ⟨rb, 15, none⟩ = some (.int .i64 thr) := BW47_RB.c 15 _ rfl
  have c53 : W47.cell? ⟨rb, 19, none⟩ = some (.int .i64 od.f) := BW47_RB.c 19 _ rfl
  have c54 : W47.cell? ⟨rb, 20, none⟩ = some (.int .i64 od.t) := BW47_RB.c 20 _ rfl
  have c55 : W47.cell? ⟨rb, 21, none⟩ = some (.int .i64 od.e) := BW47_RB.c 21 _ rfl
  have c56 : W47.cell? ⟨w14.heap.size, 1, none⟩ = some (.int .i64 ag) := BW47_H.c 1 _ rfl
  go_quiet (fail)
  go_wp2_with fail
  refine named (fun W57 hW57 => ?_)
  have KW57 : Touch (fun k => k = rb ∨ k = bw) w W57 := by rw [hW57]; exact (KW47.drewN _)
  have BW57_RB : BL W57 (rb) 70 [.pointer (some ⟨ba, 0, none⟩), .pointer (some ⟨ba, 0, none⟩), .pointer (some ⟨bt, 0, none⟩), .int .i64 (y 0).f, .int .i64 (y 0).t, .int .i64 (y 0).e, .int .i64 (y 1).f, .int .i64 (y 1).t, .int .i64 (y 1).e, .int .i64 (y 2).f, .int .i64 (y 2).t, .int .i64 (y 2).e, .int .i64 (y 3).f, .int .i64 (y 3).t, .int .i64 (y 3).e, .int .i64 thr, .int .i64 tt.f, .int .i64 tt.t, .int .i64 tt.e, .int .i64 od.f, .int .i64 od.t, .int .i64 od.e, olds, all] := by rw [hW57]; exact (BL.drewN _ BW47_RB)
  have BW57_H : BL W57 (w14.heap.size) 96 [.int .i64 c, .int .i64 ag, .int .i64 0, .bool false, .bool fi, .bool dn] := by rw [hW57]; exact (BL.drewN _ BW47_H)
  have BW57_M : BL W57 (w41.heap.size) 96 [.int .i64 c, .int .i64 ag2, .int .i64 0, .bool false, .bool fi, .bool dn] := by rw [hW57]; exact (BL.drewN _ BW47_M)
  have zW57 : W47.heap.size + 0 ≤ W57.heap.size := by rw [hW57]; simp
  have SW57 := St.aside SW47 (show Touch (fun k => w.heap.size ≤ k ∨ k = rb) W47 W57 by rw [hW57]; exact ((Touch.refl _ W47).drewN _)) HN.out HR_.out
  clear l48 l49 l50 c51 c52 c53 c54 c55 c56 SW47 BW47_RB BW47_H BW47_M KW47 hW57
  have l58 := BW57_RB.lt
  have l59 := BW57_H.lt
  have l60 := BW57_M.lt
  refine Calls.mono (HT2.out _) ?_
  rintro e w61 ⟨rfl, kw61⟩
  have Kw61 := Touch.trans KW57 kw61 (fun _ e _ => e.elim)
  have Bw61_RB := BL.keep BW57_RB kw61
  have Bw61_H := BL.keep BW57_H kw61
  have Bw61_M := BL.keep BW57_M kw61
  have zw61 := kw61.size
  have Sw61 := St.keep SW57 kw61
  clear l58 l59 l60 SW57 BW57_RB BW57_H BW57_M KW57 kw61
  have l62 := Bw61_RB.lt
  have l63 := Bw61_H.lt
  have l64 := Bw61_M.lt
  have c65 : w61.cell? ⟨rb, 0, none⟩ = some (.pointer (some ⟨ba, 0, none⟩)) := Bw61_RB.c 0 _ rfl
  have c66 : w61.cell? ⟨rb, 19, none⟩ = some (.int .i64 od.f) := Bw61_RB.c 19 _ rfl
  have c67 : w61.cell? ⟨rb, 20, none⟩ = some (.int .i64 od.t) := Bw61_RB.c 20 _ rfl
  have c68 : w61.cell? ⟨rb, 21, none⟩ = some (.int .i64 od.e) := Bw61_RB.c 21 _ rfl
  have f69 := Bw61_RB.fz 19
  have f70 := Bw61_RB.fz 20
  have f71 := Bw61_RB.fz 21
  have c72 : w61.cell? ⟨w14.heap.size, 0, none⟩ = some (.int .i64 c) := Bw61_H.c 0 _ rfl
  have c73 : w61.cell? ⟨w14.heap.size, 1, none⟩ = some (.int .i64 ag) := Bw61_H.c 1 _ rfl
  have c74 : w61.cell? ⟨w14.heap.size, 2, none⟩ = some (.int .i64 0) := Bw61_H.c 2 _ rfl
  have c75 : w61.cell? ⟨w14.heap.size, 3, none⟩ = some (.bool false) := Bw61_H.c 3 _ rfl
  have c76 : w61.cell? ⟨w14.heap.size, 4, none⟩ = some (.bool fi) := Bw61_H.c 4 _ rfl
  have c77 : w61.cell? ⟨w14.heap.size, 5, none⟩ = some (.bool dn) := Bw61_H.c 5 _ rfl
  go_wp2_with (first | (refine store_bl ?_ 96 (.tmp 13) (.tmp 85) ?_ (BL.other (BL.other (BL.other Bw61_M (by show w41.heap.size ≠ rb; omega) _) (by show w41.heap.size ≠ rb; omega) _) (by show w41.heap.size ≠ rb; omega) _) ?_ [.int .i64 c, .int .i64 ag, .int .i64 0, .bool false, .bool fi, .bool dn] ?_ sz_hd rfl rfl ?_; rfl; rfl; rfl; rfl; intro W78 BW78_M kW78; have KW78 := Touch.trans (Touch.setCell (Touch.setCell (Touch.setCell Kw61 (fun _ => .inl rfl) _) (fun _ => .inl rfl) _) (fun _ => .inl rfl) _) kW78 (fun x e hx => absurd hx (by have := e; omega)); have BW78_RB := BL.touch (BL.set (BL.set (BL.set Bw61_RB 19 (.int .i64 od.f)) 20 (.int .i64 (od.t + k))) 21 (.int .i64 od.e)) kW78 (by show ¬ (rb = w41.heap.size); omega); have BW78_H := BL.touch (BL.other (BL.other (BL.other Bw61_H (by show w14.heap.size ≠ rb; omega) _) (by show w14.heap.size ≠ rb; omega) _) (by show w14.heap.size ≠ rb; omega) _) kW78 (by show ¬ (w14.heap.size = w41.heap.size); omega); have zW78 : w61.heap.size + 0 ≤ W78.heap.size := Nat.le_trans (by simp) kW78.size; have SW78 := St.aside Sw61 (Touch.trans (show Touch (fun k => w.heap.size ≤ k ∨ k = rb) w61 _ from (Touch.setCell (Touch.setCell (Touch.setCell (Touch.refl _ w61) (fun _ => .inr rfl) _) (fun _ => .inr rfl) _) (fun _ => .inr rfl) _)) kW78 (fun x e _ => .inl (by have := e; omega))) HN.out HR_.out; clear l62 l63 l64 c65 c66 c67 c68 f69 f70 f71 c72 c73 c74 c75 c76 c77 Bw61_RB Bw61_H Bw61_M Kw61 kW78 Sw61; have l79 := BW78_M.lt; have l80 := BW78_RB.lt; have l81 := BW78_H.lt; have c82 : W78.cell? ⟨rb, 0, none⟩ = some (.pointer (some ⟨ba, 0, none⟩)) := BW78_RB.c 0 _ rfl))
  refine Calls.mono (HMv.out _ SW78.ar) ?_
  rintro e w83 ⟨rfl, aw83, ow83⟩
  have Kw83 := Touch.trans KW78 ow83 (fun _ e _ => .inr e)
  have Sw83 := St.only SW78 aw83 ow83
  have Bw83_RB := BL.touch BW78_RB ow83 (by show ¬ (rb = bw); omega)
  have Bw83_H := BL.touch BW78_H ow83 (by show ¬ (w14.heap.size = bw); omega)
  have Bw83_M := BL.touch BW78_M ow83 (by show ¬ (w41.heap.size = bw); omega)
  have zw83 := ow83.size
  clear l79 l80 l81 c82 BW78_RB BW78_H BW78_M KW78 ow83 aw83 SW78
  have l84 := Bw83_RB.lt
  have l85 := Bw83_H.lt
  have l86 := Bw83_M.lt
  have c87 : w83.cell? ⟨rb, 1, none⟩ = some (.pointer (some ⟨ba, 0, none⟩)) := Bw83_RB.c 1 _ rfl
  have c88 : w83.cell? ⟨rb, 2, none⟩ = some (.pointer (some ⟨bt, 0, none⟩)) := Bw83_RB.c 2 _ rfl
  have c89 : w83.cell? ⟨w41.heap.size, 0, none⟩ = some (.int .i64 c) := Bw83_M.c 0 _ rfl
  have c90 : w83.cell? ⟨w41.heap.size, 1, none⟩ = some (.int .i64 ag) := Bw83_M.c 1 _ rfl
  have c91 : w83.cell? ⟨w41.heap.size, 2, none⟩ = some (.int .i64 0) := Bw83_M.c 2 _ rfl
  have c92 : w83.cell? ⟨w41.heap.size, 3, none⟩ = some (.bool false) := Bw83_M.c 3 _ rfl
  have c93 : w83.cell? ⟨w41.heap.size, 4, none⟩ = some (.bool fi) := Bw83_M.c 4 _ rfl
  have c94 : w83.cell? ⟨w41.heap.size, 5, none⟩ = some (.bool dn) := Bw83_M.c 5 _ rfl
  go_wp2_with fail
  clear l84 l85 l86 c87 c88 c89 c90 c91 c92 c93 c94
  have l95 := Bw83_RB.lt
  have l96 := Bw83_H.lt
  have l97 := Bw83_M.lt
  have d1 := Bw83_RB.c 1 _ rfl
  have d2 := Bw83_RB.c 2 _ rfl
  have e0 := Bw83_M.c 0 _ rfl
  have e1 := Bw83_M.c 1 _ rfl
  have e2 := Bw83_M.c 2 _ rfl
  have e3 := Bw83_M.c 3 _ rfl
  have e4 := Bw83_M.c 4 _ rfl
  have e5 := Bw83_M.c 5 _ rfl
  refine wp_region_noPanic ?_
  refine wp_region_held_drew (S := (fun w' => Only bw w83 w')) (by kernel_rfl) (Only.refl _ w83).drew (fun hHeld => ?_)
  refine' wpAnyH_take (i := 0) ?hi0_5 ?hs0_5 ?hf0_5 ?hr0_5 ?hQ0_5 ?hy0_5 (by assumption) ?rest0_5
  case hi0_5 => simp only [List.getElem?_toArray, List.getElem?_cons_zero] <;> rfl
  case hs0_5 => kernel_rfl
  case hf0_5 => kernel_rfl
  case hr0_5 => kernel_rfl
  case hQ0_5 => exact fun _ _ _ h => h
  case hy0_5 => exact Or.inl ⟨by rfl, fun w hSw => by have q1 := cell_only d1 hSw (by show rb ≠ bw; omega); have q2 := cell_only d2 hSw (by show rb ≠ bw; omega); have p0 := cell_only e0 hSw (by show w41.heap.size ≠ bw; omega); have p1 := cell_only e1 hSw (by show w41.heap.size ≠ bw; omega); have p2 := cell_only e2 hSw (by show w41.heap.size ≠ bw; omega); have p3 := cell_only e3 hSw (by show w41.heap.size ≠ bw; omega); have p4 := cell_only e4 hSw (by show w41.heap.size ≠ bw; omega); have p5 := cell_only e5 hSw (by show w41.heap.size ≠ bw; omega); go_simp <;> (try with_reducible rfl)⟩
  simp only [Act.put, List.setIfInBounds_toArray, List.set_cons_zero, List.set_cons_succ]
  refine' wpAnyH_take (i := 1) ?hi1_5 ?hs1_5 ?hf1_5 ?hr1_5 ?hQ1_5 ?hy1_5 (by assumption) ?rest1_5
  case hi1_5 => simp only [List.getElem?_toArray, List.getElem?_cons_succ, List.getElem?_cons_zero] <;> rfl
  case hs1_5 => kernel_rfl
  case hf1_5 => kernel_rfl
  case hr1_5 => kernel_rfl
  case hQ1_5 => exact fun _ _ _ h => h
  case hy1_5 => exact Or.inl ⟨by rfl, fun w hSw => by have q1 := cell_only d1 hSw (by show rb ≠ bw; omega); have q2 := cell_only d2 hSw (by show rb ≠ bw; omega); have p0 := cell_only e0 hSw (by show w41.heap.size ≠ bw; omega); have p1 := cell_only e1 hSw (by show w41.heap.size ≠ bw; omega); have p2 := cell_only e2 hSw (by show w41.heap.size ≠ bw; omega); have p3 := cell_only e3 hSw (by show w41.heap.size ≠ bw; omega); have p4 := cell_only e4 hSw (by show w41.heap.size ≠ bw; omega); have p5 := cell_only e5 hSw (by show w41.heap.size ≠ bw; omega); go_simp <;> (try with_reducible rfl)⟩
  simp only [Act.put, List.setIfInBounds_toArray, List.set_cons_zero, List.set_cons_succ]
  refine' wpAnyH_take (i := 2) ?hi2_5 ?hs2_5 ?hf2_5 ?hr2_5 ?hQ2_5 ?hy2_5 (by assumption) ?rest2_5
  case hi2_5 => simp only [List.getElem?_toArray, List.getElem?_cons_succ, List.getElem?_cons_zero] <;> rfl
  case hs2_5 => kernel_rfl
  case hf2_5 => kernel_rfl
  case hr2_5 => kernel_rfl
  case hQ2_5 => exact fun _ _ _ h => h
  case hy2_5 => exact Or.inl ⟨by rfl, fun w hSw => by have q1 := cell_only d1 hSw (by show rb ≠ bw; omega); have q2 := cell_only d2 hSw (by show rb ≠ bw; omega); have p0 := cell_only e0 hSw (by show w41.heap.size ≠ bw; omega); have p1 := cell_only e1 hSw (by show w41.heap.size ≠ bw; omega); have p2 := cell_only e2 hSw (by show w41.heap.size ≠ bw; omega); have p3 := cell_only e3 hSw (by show w41.heap.size ≠ bw; omega); have p4 := cell_only e4 hSw (by show w41.heap.size ≠ bw; omega); have p5 := cell_only e5 hSw (by show w41.heap.size ≠ bw; omega); go_simp <;> (try with_reducible rfl)⟩
  simp only [Act.put, List.setIfInBounds_toArray, List.set_cons_zero, List.set_cons_succ]
  refine' wpAnyH_take (i := 3) ?hi3_5 ?hs3_5 ?hf3_5 ?hr3_5 ?hQ3_5 ?hy3_5 (by assumption) ?rest3_5
  case hi3_5 => simp only [List.getElem?_toArray, List.getElem?_cons_succ, List.getElem?_cons_zero] <;> rfl
  case hs3_5 => kernel_rfl
  case hf3_5 => kernel_rfl
  case hr3_5 => kernel_rfl
  case hQ3_5 => exact fun _ _ _ h => h
  case hy3_5 => exact Or.inl ⟨by rfl, fun w hSw => by have q1 := cell_only d1 hSw (by show rb ≠ bw; omega); have q2 := cell_only d2 hSw (by show rb ≠ bw; omega); have p0 := cell_only e0 hSw (by show w41.heap.size ≠ bw; omega); have p1 := cell_only e1 hSw (by show w41.heap.size ≠ bw; omega); have p2 := cell_only e2 hSw (by show w41.heap.size ≠ bw; omega); have p3 := cell_only e3 hSw (by show w41.heap.size ≠ bw; omega); have p4 := cell_only e4 hSw (by show w41.heap.size ≠ bw; omega); have p5 := cell_only e5 hSw (by show w41.heap.size ≠ bw; omega); go_simp <;> (try with_reducible rfl)⟩
  simp only [Act.put, List.setIfInBounds_toArray, List.set_cons_zero, List.set_cons_succ]
  refine' wpAnyH_take (i := 4) ?hi4_5 ?hs4_5 ?hf4_5 ?hr4_5 ?hQ4_5 ?hy4_5 (by assumption) ?rest4_5
  case hi4_5 => simp only [List.getElem?_toArray, List.getElem?_cons_succ, List.getElem?_cons_zero] <;> rfl
  case hs4_5 => kernel_rfl
  case hf4_5 => kernel_rfl
  case hr4_5 => kernel_rfl
  case hQ4_5 => exact fun _ _ _ h => h
  case hy4_5 => exact Or.inl ⟨by rfl, fun w hSw => by have q1 := cell_only d1 hSw (by show rb ≠ bw; omega); have q2 := cell_only d2 hSw (by show rb ≠ bw; omega); have p0 := cell_only e0 hSw (by show w41.heap.size ≠ bw; omega); have p1 := cell_only e1 hSw (by show w41.heap.size ≠ bw; omega); have p2 := cell_only e2 hSw (by show w41.heap.size ≠ bw; omega); have p3 := cell_only e3 hSw (by show w41.heap.size ≠ bw; omega); have p4 := cell_only e4 hSw (by show w41.heap.size ≠ bw; omega); have p5 := cell_only e5 hSw (by show w41.heap.size ≠ bw; omega); go_simp <;> (try with_reducible rfl)⟩
  simp only [Act.put, List.setIfInBounds_toArray, List.set_cons_zero, List.set_cons_succ]
  refine' wpAnyH_take (i := 5) ?hi5_5 ?hs5_5 ?hf5_5 ?hr5_5 ?hQ5_5 ?hy5_5 (by assumption) ?rest5_5
  case hi5_5 => simp only [List.getElem?_toArray, List.getElem?_cons_succ, List.getElem?_cons_zero] <;> rfl
  case hs5_5 => kernel_rfl
  case hf5_5 => kernel_rfl
  case hr5_5 => kernel_rfl
  case hQ5_5 => exact fun _ _ _ h => h
  case hy5_5 => exact Or.inl ⟨by rfl, fun w hSw => by have q1 := cell_only d1 hSw (by show rb ≠ bw; omega); have q2 := cell_only d2 hSw (by show rb ≠ bw; omega); have p0 := cell_only e0 hSw (by show w41.heap.size ≠ bw; omega); have p1 := cell_only e1 hSw (by show w41.heap.size ≠ bw; omega); have p2 := cell_only e2 hSw (by show w41.heap.size ≠ bw; omega); have p3 := cell_only e3 hSw (by show w41.heap.size ≠ bw; omega); have p4 := cell_only e4 hSw (by show w41.heap.size ≠ bw; omega); have p5 := cell_only e5 hSw (by show w41.heap.size ≠ bw; omega); go_simp <;> (try with_reducible rfl)⟩
  simp only [Act.put, List.setIfInBounds_toArray, List.set_cons_zero, List.set_cons_succ]
  refine wpAnyH_ready (rs := [6]) (by kernel_rfl) (by simp) ?_
  refine AllReadyH.cons rfl (fun K hK => ?_) AllReadyH.nil
  go_simp
  with_reducible refine Calls.mono (HS1.out _ (St.keep Sw83 (Touch.drew (Touch.refl (fun _ => False) w83)))) ?_
  rintro e w98 ⟨rfl, Sw98, ow98⟩
  go_wp2_with fail
  refine hK.out _ _ (hHeld.trans_ ow98) (fun hHeld => ?_)
  clear hK K
  refine wpAnyH_done (by kernel_rfl) ?_ _
  refine NoPanic.normal ?_
  have ow98_ : Only bw w83 w98 := hHeld
  clear hHeld d1 d2 e0 e1 e2 e3 e4 e5 ow98
  have Kw98 := Touch.trans Kw83 ow98_ (fun _ e _ => .inr e)
  have Bw98_RB := BL.touch Bw83_RB ow98_ (by show ¬ (rb = bw); omega)
  have Bw98_H := BL.touch Bw83_H ow98_ (by show ¬ (w14.heap.size = bw); omega)
  have zw98 := ow98_.size
  clear l95 l96 l97 Bw83_RB Bw83_H Bw83_M Kw83 ow98_ Sw83
  have l99 := Bw98_RB.lt
  have l100 := Bw98_H.lt
  have c101 : w98.cell? ⟨w14.heap.size, 2, none⟩ = some (.int .i64 0) := Bw98_H.c 2 _ rfl
  have f102 := Bw98_H.fz 2
  go_wp2_with fail
  refine named_code (fun W103 hW103 => ?_)
  have KW103 : Touch (fun k => k = rb ∨ k = bw) w W103 := by rw [hW103]; exact (Touch.setCell Kw98 (fun hlt => absurd hlt (by show ¬ (w14.heap.size < w.heap.size); omega)) _)
  have BW103_RB : BL W103 (rb) 70 [.pointer (some ⟨ba, 0, none⟩), .pointer (some ⟨ba, 0, none⟩), .pointer (some ⟨bt, 0, none⟩), .int .i64 (y 0).f, .int .i64 (y 0).t, .int .i64 (y 0).e, .int .i64 (y 1).f, .int .i64 (y 1).t, .int .i64 (y 1).e, .int .i64 (y 2).f, .int .i64 (y 2).t, .int .i64 (y 2).e, .int .i64 (y 3).f, .int .i64 (y 3).t, .int .i64 (y 3).e, .int .i64 thr, .int .i64 tt.f, .int .i64 tt.t, .int .i64 tt.e, .int .i64 od.f, .int .i64 (od.t + k), .int .i64 od.e, olds, all] := by rw [hW103]; exact (BL.other Bw98_RB (by show rb ≠ w14.heap.size; omega) _)
  have BW103_H : BL W103 (w14.heap.size) 96 [.int .i64 c, .int .i64 ag, .int .i64 od.t, .bool false, .bool fi, .bool dn] := by rw [hW103]; exact (BL.set Bw98_H 2 (.int .i64 od.t))
  have zW103 : w98.heap.size + 0 ≤ W103.heap.size := by rw [hW103]; simp
  have SW103 := St.aside Sw98 (show Touch (fun k => w.heap.size ≤ k ∨ k = rb) w98 W103 by rw [hW103]; exact (Touch.setCell (Touch.refl _ w98) (fun _ => .inl (by show w.heap.size ≤ w14.heap.size; omega)) _)) HN.out HR_.out
  clear l99 l100 c101 f102 Sw98 Bw98_RB Bw98_H Kw98 hW103
  have l104 := BW103_RB.lt
  have l105 := BW103_H.lt
  clear l104 l105
  have l106 := BW103_RB.lt
  have l107 := BW103_H.lt
  have d1 := BW103_RB.c 1 _ rfl
  have d2 := BW103_RB.c 2 _ rfl
  have e0 := BW103_H.c 0 _ rfl
  have e1 := BW103_H.c 1 _ rfl
  have e2 := BW103_H.c 2 _ rfl
  have e3 := BW103_H.c 3 _ rfl
  have e4 := BW103_H.c 4 _ rfl
  have e5 := BW103_H.c 5 _ rfl
  refine wp_region_noPanic ?_
  refine wp_region_held_drew (S := (fun w' => Only bw W103 w')) (by kernel_rfl) (Only.refl _ W103).drew (fun hHeld => ?_)
  refine' wpAnyH_take (i := 0) ?hi0_6 ?hs0_6 ?hf0_6 ?hr0_6 ?hQ0_6 ?hy0_6 (by assumption) ?rest0_6
  case hi0_6 => simp only [List.getElem?_toArray, List.getElem?_cons_zero] <;> rfl
  case hs0_6 => kernel_rfl
  case hf0_6 => kernel_rfl
  case hr0_6 => kernel_rfl
  case hQ0_6 => exact fun _ _ _ h => h
  case hy0_6 => exact Or.inl ⟨by rfl, fun w hSw => by have q1 := cell_only d1 hSw (by show rb ≠ bw; omega); have q2 := cell_only d2 hSw (by show rb ≠ bw; omega); have p0 := cell_only e0 hSw (by show w14.heap.size ≠ bw; omega); have p1 := cell_only e1 hSw (by show w14.heap.size ≠ bw; omega); have p2 := cell_only e2 hSw (by show w14.heap.size ≠ bw; omega); have p3 := cell_only e3 hSw (by show w14.heap.size ≠ bw; omega); have p4 := cell_only e4 hSw (by show w14.heap.size ≠ bw; omega); have p5 := cell_only e5 hSw (by show w14.heap.size ≠ bw; omega); go_simp <;> (try with_reducible rfl)⟩
  simp only [Act.put, List.setIfInBounds_toArray, List.set_cons_zero, List.set_cons_succ]
  refine' wpAnyH_take (i := 1) ?hi1_6 ?hs1_6 ?hf1_6 ?hr1_6 ?hQ1_6 ?hy1_6 (by assumption) ?rest1_6
  case hi1_6 => simp only [List.getElem?_toArray, List.getElem?_cons_succ, List.getElem?_cons_zero] <;> rfl
  case hs1_6 => kernel_rfl
  case hf1_6 => kernel_rfl
  case hr1_6 => kernel_rfl
  case hQ1_6 => exact fun _ _ _ h => h
  case hy1_6 => exact Or.inl ⟨by rfl, fun w hSw => by have q1 := cell_only d1 hSw (by show rb ≠ bw; omega); have q2 := cell_only d2 hSw (by show rb ≠ bw; omega); have p0 := cell_only e0 hSw (by show w14.heap.size ≠ bw; omega); have p1 := cell_only e1 hSw (by show w14.heap.size ≠ bw; omega); have p2 := cell_only e2 hSw (by show w14.heap.size ≠ bw; omega); have p3 := cell_only e3 hSw (by show w14.heap.size ≠ bw; omega); have p4 := cell_only e4 hSw (by show w14.heap.size ≠ bw; omega); have p5 := cell_only e5 hSw (by show w14.heap.size ≠ bw; omega); go_simp <;> (try with_reducible rfl)⟩
  simp only [Act.put, List.setIfInBounds_toArray, List.set_cons_zero, List.set_cons_succ]
  refine' wpAnyH_take (i := 2) ?hi2_6 ?hs2_6 ?hf2_6 ?hr2_6 ?hQ2_6 ?hy2_6 (by assumption) ?rest2_6
  case hi2_6 => simp only [List.getElem?_toArray, List.getElem?_cons_succ, List.getElem?_cons_zero] <;> rfl
  case hs2_6 => kernel_rfl
  case hf2_6 => kernel_rfl
  case hr2_6 => kernel_rfl
  case hQ2_6 => exact fun _ _ _ h => h
  case hy2_6 => exact Or.inl ⟨by rfl, fun w hSw => by have q1 := cell_only d1 hSw (by show rb ≠ bw; omega); have q2 := cell_only d2 hSw (by show rb ≠ bw; omega); have p0 := cell_only e0 hSw (by show w14.heap.size ≠ bw; omega); have p1 := cell_only e1 hSw (by show w14.heap.size ≠ bw; omega); have p2 := cell_only e2 hSw (by show w14.heap.size ≠ bw; omega); have p3 := cell_only e3 hSw (by show w14.heap.size ≠ bw; omega); have p4 := cell_only e4 hSw (by show w14.heap.size ≠ bw; omega); have p5 := cell_only e5 hSw (by show w14.heap.size ≠ bw; omega); go_simp <;> (try with_reducible rfl)⟩
  simp only [Act.put, List.setIfInBounds_toArray, List.set_cons_zero, List.set_cons_succ]
  refine' wpAnyH_take (i := 3) ?hi3_6 ?hs3_6 ?hf3_6 ?hr3_6 ?hQ3_6 ?hy3_6 (by assumption) ?rest3_6
  case hi3_6 => simp only [List.getElem?_toArray, List.getElem?_cons_succ, List.getElem?_cons_zero] <;> rfl
  case hs3_6 => kernel_rfl
  case hf3_6 => kernel_rfl
  case hr3_6 => kernel_rfl
  case hQ3_6 => exact fun _ _ _ h => h
  case hy3_6 => exact Or.inl ⟨by rfl, fun w hSw => by have q1 := cell_only d1 hSw (by show rb ≠ bw; omega); have q2 := cell_only d2 hSw (by show rb ≠ bw; omega); have p0 := cell_only e0 hSw (by show w14.heap.size ≠ bw; omega); have p1 := cell_only e1 hSw (by show w14.heap.size ≠ bw; omega); have p2 := cell_only e2 hSw (by show w14.heap.size ≠ bw; omega); have p3 := cell_only e3 hSw (by show w14.heap.size ≠ bw; omega); have p4 := cell_only e4 hSw (by show w14.heap.size ≠ bw; omega); have p5 := cell_only e5 hSw (by show w14.heap.size ≠ bw; omega); go_simp <;> (try with_reducible rfl)⟩
  simp only [Act.put, List.setIfInBounds_toArray, List.set_cons_zero, List.set_cons_succ]
  refine' wpAnyH_take (i := 4) ?hi4_6 ?hs4_6 ?hf4_6 ?hr4_6 ?hQ4_6 ?hy4_6 (by assumption) ?rest4_6
  case hi4_6 => simp only [List.getElem?_toArray, List.getElem?_cons_succ, List.getElem?_cons_zero] <;> rfl
  case hs4_6 => kernel_rfl
  case hf4_6 => kernel_rfl
  case hr4_6 => kernel_rfl
  case hQ4_6 => exact fun _ _ _ h => h
  case hy4_6 => exact Or.inl ⟨by rfl, fun w hSw => by have q1 := cell_only d1 hSw (by show rb ≠ bw; omega); have q2 := cell_only d2 hSw (by show rb ≠ bw; omega); have p0 := cell_only e0 hSw (by show w14.heap.size ≠ bw; omega); have p1 := cell_only e1 hSw (by show w14.heap.size ≠ bw; omega); have p2 := cell_only e2 hSw (by show w14.heap.size ≠ bw; omega); have p3 := cell_only e3 hSw (by show w14.heap.size ≠ bw; omega); have p4 := cell_only e4 hSw (by show w14.heap.size ≠ bw; omega); have p5 := cell_only e5 hSw (by show w14.heap.size ≠ bw; omega); go_simp <;> (try with_reducible rfl)⟩
  simp only [Act.put, List.setIfInBounds_toArray, List.set_cons_zero, List.set_cons_succ]
  refine' wpAnyH_take (i := 5) ?hi5_6 ?hs5_6 ?hf5_6 ?hr5_6 ?hQ5_6 ?hy5_6 (by assumption) ?rest5_6
  case hi5_6 => simp only [List.getElem?_toArray, List.getElem?_cons_succ, List.getElem?_cons_zero] <;> rfl
  case hs5_6 => kernel_rfl
  case hf5_6 => kernel_rfl
  case hr5_6 => kernel_rfl
  case hQ5_6 => exact fun _ _ _ h => h
  case hy5_6 => exact Or.inl ⟨by rfl, fun w hSw => by have q1 := cell_only d1 hSw (by show rb ≠ bw; omega); have q2 := cell_only d2 hSw (by show rb ≠ bw; omega); have p0 := cell_only e0 hSw (by show w14.heap.size ≠ bw; omega); have p1 := cell_only e1 hSw (by show w14.heap.size ≠ bw; omega); have p2 := cell_only e2 hSw (by show w14.heap.size ≠ bw; omega); have p3 := cell_only e3 hSw (by show w14.heap.size ≠ bw; omega); have p4 := cell_only e4 hSw (by show w14.heap.size ≠ bw; omega); have p5 := cell_only e5 hSw (by show w14.heap.size ≠ bw; omega); go_simp <;> (try with_reducible rfl)⟩
  simp only [Act.put, List.setIfInBounds_toArray, List.set_cons_zero, List.set_cons_succ]
  refine wpAnyH_ready (rs := [6]) (by kernel_rfl) (by simp) ?_
  refine AllReadyH.cons rfl (fun K hK => ?_) AllReadyH.nil
  go_simp
  with_reducible refine Calls.mono (HS2.out _ (St.keep SW103 (Touch.drew (Touch.refl (fun _ => False) W103)))) ?_
  rintro e w108 ⟨rfl, Sw108, ow108⟩
  go_wp2_with fail
  refine hK.out _ _ (hHeld.trans_ ow108) (fun hHeld => ?_)
  clear hK K
  refine wpAnyH_done (by kernel_rfl) ?_ _
  refine NoPanic.normal ?_
  have ow108_ : Only bw W103 w108 := hHeld
  clear hHeld d1 d2 e0 e1 e2 e3 e4 e5 ow108
  have Kw108 := Touch.trans KW103 ow108_ (fun _ e _ => .inr e)
  have Bw108_RB := BL.touch BW103_RB ow108_ (by show ¬ (rb = bw); omega)
  have zw108 := ow108_.size
  clear l106 l107 BW103_RB BW103_H KW103 ow108_ SW103
  have l109 := Bw108_RB.lt
  go_wp2_with fail
  go_ret
  exact ⟨rfl, ⟨Sw108, Bw108_RB, HR_.out⟩, Kw108⟩

end Go.Proofs.Ytabfbgkablbeeaa
