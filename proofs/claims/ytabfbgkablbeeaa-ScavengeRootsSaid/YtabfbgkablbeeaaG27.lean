/- Layer 15, scavenge: move by the plain function; scan. -/
import Derived.Test.YtabfbgkablbeeaaG26
set_option linter.all false

namespace Go.Proofs.Ytabfbgkablbeeaa
open Go.RowKit

set_option maxHeartbeats 1000000 in
theorem move_still {w : World} {ba bw n : Nat} {f : Nat → Int} {bt : Nat} {A : Option Addr} {m cap : Nat} {C : Nat → Cl} {rb : Nat} {y : Nat → Sp} {thr : Int} {tt od : Sp} {olds all : Value} (h : Rn w ba bw n f bt A m cap C rb y thr tt od olds all) {a : Int} (ha : a = 0 ∨ ygB (y 1) (y 2) a = false) :
    Calls Try.prog 25 #[.pointer (some ⟨rb, 0, none⟩), .int .i64 a] w fun e w' => e = .returned (.int .i64 a) ∧ Keeps w w' := by
  by_cases hz : a = 0
  · subst hz
    clear h ha
    go_enter Try.func25, Try.ntmps25
    go_wp2_with fail
    go_ret
    exact ⟨rfl, Touch.refl _ _⟩
  · have hyg := ha.resolve_left hz
    have HY := Lib.hid (show Calls Try.prog 57 #[.pointer (some ⟨rb, 0, none⟩), .int .i64 a] w fun e w2 => e = .returned (.bool false) ∧ Keeps w w2 from by rw [← hyg]; exact young_any rb (y 1) (y 2) a w h.ygc)
    have hzb : (a == 0) = false := by simpa using hz
    clear h ha hyg
    go_enter Try.func25, Try.ntmps25
    go_wp2_with fail
    refine Calls.mono HY.out ?_
    rintro e w1 ⟨rfl, k1⟩
    go_wp2_with fail
    go_ret
    exact ⟨rfl, k1⟩
set_option maxHeartbeats 1000000 in
theorem move_gone {w : World} {ba bw n : Nat} {f : Nat → Int} {bt : Nat} {A : Option Addr} {m cap : Nat} {C : Nat → Cl} {rb : Nat} {y : Nat → Sp} {thr : Int} {tt od : Sp} {olds all : Value} (h : Rn w ba bw n f bt A m cap C rb y thr tt od olds all) {a : Int} (hz : a ≠ 0) (hyg : ygB (y 1) (y 2) a = true) {c ag fw r d k : Int} {mk fi dn : Bool} (hat : atT n f m C a = (⟨⟨c, ag, fw, mk, fi, dn⟩, r, d, k⟩, 0)) (hc : c ≠ 0) (hf : fw ≠ 0) :
    Calls Try.prog 25 #[.pointer (some ⟨rb, 0, none⟩), .int .i64 a] w fun e w' => e = .returned (.int .i64 fw) ∧ Keeps w w' := by
  have HY := Lib.hid (show Calls Try.prog 57 #[.pointer (some ⟨rb, 0, none⟩), .int .i64 a] w fun e w2 => e = .returned (.bool true) ∧ Keeps w w2 from by rw [← hyg]; exact young_any rb (y 1) (y 2) a w h.ygc)
  have hobj : objP (atT n f m C a) = (⟨⟨c, ag, fw, mk, fi, dn⟩, r, d, k⟩, 0) := by rw [objP_same (by rw [hat]; exact fun q => hc q.2)]; exact hat
  have HHd := Lib.hid (show ∀ w', Keeps w w' → Calls Try.prog 41 #[.agg #[.pointer (some ⟨ba, 0, none⟩), .pointer (some ⟨bt, 0, none⟩)], .int .i64 a] w' fun e w2 => e = .returned (.tuple #[.agg #[.int .i64 c, .int .i64 ag, .int .i64 fw, .bool mk, .bool fi, .bool dn], .int .i64 0]) ∧ Keeps w' w2 from fun w' q => by
    have := ohead_any ba bw n f bt A m cap C w' (h.st.keep q) a
    rw [hobj] at this
    exact this)
  have c1 := Lib.hid (h.blk.c 1 _ rfl)
  have c2 := Lib.hid (h.blk.c 2 _ rfl)
  have hzb : (a == 0) = false := by simpa using hz
  have hfb : (fw != 0) = true := by simpa using hf
  clear h hyg hat hobj hc hz
  go_enter Try.func25, Try.ntmps25
  go_wp2_with fail
  refine Calls.mono HY.out ?_
  rintro e w1 ⟨rfl, k1⟩
  have d1 := cell_keep c1.out k1
  have d2 := cell_keep c2.out k1
  go_wp2_with fail
  refine Calls.mono (HHd.out _ k1) ?_
  rintro e w2 ⟨rfl, k2⟩
  go_wp2_with fail
  go_ret
  exact ⟨rfl, (Keeps.trans k1 k2).alloc _⟩
section
variable {n m : Nat} {C : Nat → Cl} {f0 : Nat → Int} {Y D : List Int} {T0 O0 : Sp} {φ : Int → Int} {sn : Int → Nat} {s : Sc} {y : Nat → Sp} {thr : Int}
variable {w : World} {ba bw bt : Nat} {A : Option Addr} {cap : Nat} {rb : Nat} {olds all : Value}
def MvOut (ba bw n bt : Nat) (A : Option Addr) (m cap : Nat) (C : Nat → Cl) (rb : Nat) (y : Nat → Sp) (thr : Int) (olds all : Value) (p : Sc × Int) (w : World) (e : Ending) (w' : World) : Prop :=
  e = .returned (.int .i64 p.2) ∧ Rn w' ba bw n p.1.f bt A m cap C rb y thr p.1.tt p.1.od olds all ∧ Touch (fun k => k = rb ∨ k = bw) w w'
/-- A move does what the plain function says. -/
theorem move_any (V : Wd n m C f0 Y D T0 O0) (G : Yg n m C f0 Y D O0 (ygB (y 1) (y 2))) (I : Inv n m C f0 Y D T0 O0 φ sn s) (Ac : Acc (oK n m C f0) Y T0 O0 φ s) (h : Rn w ba bw n s.f bt A m cap C rb y thr s.tt s.od olds all) (hm : 0 < m) (hO0 : 0 ≤ O0.f ∧ O0.f ≤ O0.t) {x : Int} (hx : x = 0 ∨ x ∈ Y ∨ x ∈ D) :
    Calls Try.prog 25 #[.pointer (some ⟨rb, 0, none⟩), .int .i64 x] w (MvOut ba bw n bt A m cap C rb y thr olds all (mvd n m C (ygB (y 1) (y 2)) thr s x) w) := by
  unfold MvOut
  have kt : ∀ w', Keeps w w' → Touch (fun k => k = rb ∨ k = bw) w w' := fun w' k => k.mono (fun _ e _ => e.elim)
  by_cases h1 : x = 0 ∨ ygB (y 1) (y 2) x = false
  · have e : mvd n m C (ygB (y 1) (y 2)) thr s x = (s, x) := by unfold mvd; rw [if_pos h1]
    rw [e]
    exact (move_still h h1).mono (fun e w' q => ⟨q.1, h.keep q.2, kt _ q.2⟩)
  · have hY : x ∈ Y := by
      rcases hx with q | q | q
      · exact absurd (.inl q) h1
      · exact q
      · exact absurd (.inr (G.d x q)) h1
    have hz : x ≠ 0 := fun q => h1 (.inl q)
    have hyg := G.y x hY
    have hat := I.at_young V hY
    obtain ⟨e0, hc, hok, r0, hk2, a1, a2⟩ := V.obj x (.inl hY)
    obtain ⟨t1, t2, t3, t4⟩ := I.to_
    obtain ⟨u1, u2, u3, u4⟩ := I.old_
    have hT := V.to0
    have hO := V.old0
    have hn4 := V.n4
    have hfree := V.free x (.inl hY)
    have hap := V.apart
    have hfr := V.fresh x hY
    by_cases h0 : φ x = 0
    · rw [if_pos h0] at hat
      have hpos : ∀ a, a ∈ Y → 0 ≤ oK n m C f0 a := fun a ha => by have := (V.obj a (.inl ha)).2.2.2; omega
      have hrm : oK n m C f0 x ≤ s.od.e - s.od.t := by
        have hw := wsumF_set (K := oK n m C f0) h0 (b := 1) (by omega) G.nd hY
        have hl := wsumF_le (φ := setφ φ x 1) hpos
        have := G.room
        unfold Acc at Ac
        omega
      have ht : rightB s.tt = true := (rightB_iff _).2 (by omega)
      have ho : rightB s.od = true := (rightB_iff _).2 (by omega)
      have e : mvd n m C (ygB (y 1) (y 2)) thr s x = if (oH n m C f0 x).age < thr ∧ oK n m C f0 x ≤ s.tt.e - s.tt.t then
          (⟨mvF s.f x s.tt.t (oK n m C f0 x) (olderH (unm (oH n m C f0 x))) (fwdH (oH n m C f0 x) s.tt.t), { s.tt with t := s.tt.t + oK n m C f0 x }, s.od⟩, s.tt.t)
        else (⟨mvF s.f x s.od.t (oK n m C f0 x) (unm (oH n m C f0 x)) (fwdH (oH n m C f0 x) s.od.t), s.tt, { s.od with t := s.od.t + oK n m C f0 x }⟩, s.od.t) := by
        unfold mvd
        rw [if_neg h1, hat]
        dsimp only
        rw [if_neg (by rw [hfr]; exact fun h => h rfl)]
      rw [e]
      generalize oH n m C f0 x = H at *
      obtain ⟨c, ag, fw, mk, fi, dn⟩ := H
      dsimp only at hfr hc hat
      subst hfr
      by_cases h2 : ag < thr
      · by_cases h3 : oK n m C f0 x ≤ s.tt.e - s.tt.t
        · rw [if_pos ⟨h2, h3⟩]
          exact move_to h hm hat hc hok (by omega) hyg a1 a2 (by omega) (by omega) (by omega) (by omega) ht ho h3 h2
        · rw [if_neg (fun q => h3 q.2)]
          exact move_full h hm hat hc hok (by omega) hyg a1 a2 (by omega) (by omega) (by omega) (by omega) ht ho (by omega) hrm
      · rw [if_neg (fun q => h2 q.1)]
        by_cases h3 : oK n m C f0 x ≤ s.tt.e - s.tt.t
        · exact move_age h hm hat hc hok (by omega) hyg a1 a2 (by omega) (by omega) (by omega) (by omega) ht ho h3 (Int.not_lt.1 h2) hrm
        · exact move_full h hm hat hc hok (by omega) hyg a1 a2 (by omega) (by omega) (by omega) (by omega) ht ho (by omega) hrm
    · rw [if_neg h0] at hat
      have e : mvd n m C (ygB (y 1) (y 2)) thr s x = (s, φ x) := by
        unfold mvd
        rw [if_neg h1, hat]
        dsimp only
        rw [if_pos (show (fwdH (oH n m C f0 x) (φ x)).fwd ≠ 0 from h0)]
        rfl
      rw [e]
      exact (move_gone h hz hyg hat hc h0).mono (fun e w' q => ⟨q.1, h.keep q.2, kt _ q.2⟩)
end

end Go.Proofs.Ytabfbgkablbeeaa
