/- Layer 15, scavenge: Run, of a heap that is right. -/
import Derived.Test.YtabfbgkablbeeaaG28
import Derived.Test.YtabfbgkablbeeaaG29
import Derived.Test.YtabfbgkablbeeaaG30
import Derived.Test.YtabfbgkablbeeaaG34
import Derived.ScopeJumps
import Derived.Deep.CutBlock
set_option linter.all false

namespace Go.Proofs.Ytabfbgkablbeeaa
open Go.RowKit

theorem sz_young : (Try.prog.info? 38).map (·.size) = some 13 := by kernel_rfl
theorem zero_young (w : World) : (zeroValue 38).run Try.prog w = .ok (.agg #[.int .i64 0, .int .i64 0, .int .i64 0, .int .i64 0, .int .i64 0, .int .i64 0, .int .i64 0, .int .i64 0, .int .i64 0, .int .i64 0, .int .i64 0, .int .i64 0, .int .i64 0]) w := by kernel_rfl
theorem mvL_append (mv : Sc → Int → Sc × Int) : ∀ (l : List Int) (x : Int) (s : Sc), mvL mv (l ++ [x]) s = ((mv (mvL mv l s).1 x).1, (mvL mv l s).2 ++ [(mv (mvL mv l s).1 x).2])
  | [], _, _ => rfl
  | a :: l, x, s => by
    show ((mvL mv (l ++ [x]) (mv s a).1).1, (mv s a).2 :: (mvL mv (l ++ [x]) (mv s a).1).2) = _
    rw [mvL_append mv l x]
    rfl
theorem scL_append (sc : Sc → Int → Sc × Int) : ∀ (l : List Int) (x : Int) (s : Sc), scL sc (l ++ [x]) s = (sc (scL sc l s) x).1
  | [], _, _ => rfl
  | a :: l, x, s => scL_append sc l x (sc s a).1
theorem take_snoc {l : List Int} {k : Nat} (h : k < l.length) : l.take (k + 1) = l.take k ++ [l.getD k 0] := by
  rw [List.take_add_one, List.getElem?_eq_getElem h, List.getD_eq_getElem?_getD, List.getElem?_eq_getElem h]; rfl
theorem getD_mem {l : List Int} {k : Nat} (h : k < l.length) : l.getD k 0 ∈ l := by
  rw [List.getD_eq_getElem?_getD, List.getElem?_eq_getElem h]; exact List.getElem_mem _
/-- A frame's slot. -/
def fr (a : Act) (k : Nat) : Value := a.tmps.getD k undef
theorem frame163 (a : Act) (hs : a.tmps.size = 163) (hd : a.defers = []) : a = { tmps := ((List.range 163).map (fr a)).toArray, defers := [] } := by
  obtain ⟨t, d⟩ := a
  dsimp only at hs hd
  subst hd
  congr 1
  apply Array.ext
  · simp [hs]
  · intro i h1 h2
    simp [fr, h1]
/-- A stretch of scanning. -/
def SIx (n m : Nat) (C : Nat → Cl) (thr : Int) (f0 : Nat → Int) (Y D : List Int) (T0 O0 : Sp) (a b : Int) (s : Sc) : Prop := ∃ φ sn L1 L2 M1 M2, SI n m C thr f0 Y D T0 O0 a b s φ sn L1 L2 M1 M2
section
variable {n m : Nat} {C : Nat → Cl} {f0 : Nat → Int} {Y D : List Int} {T0 O0 : Sp} {yg : Int → Bool} {thr : Int}
/-- The state when k roots are moved. -/
theorem roots_at (V : Wd n m C f0 Y D T0 O0) (G : Yg n m C f0 Y D O0 yg) (hT : T0.t = T0.f ∧ T0.f ≤ T0.e) (hO : O0.t ≤ O0.e) {rl : List Int} (hr : ∀ x, x ∈ rl → x = 0 ∨ x ∈ Y ∨ x ∈ D) (k : Nat) :
    ∃ φ, Inv n m C f0 Y D T0 O0 φ (fun _ => 0) (mvL (mvd n m C yg thr) (rl.take k) ⟨f0, T0, O0⟩).1 ∧ Acc (oK n m C f0) Y T0 O0 φ (mvL (mvd n m C yg thr) (rl.take k) ⟨f0, T0, O0⟩).1 := by
  obtain ⟨φ, _, _, I, A, _⟩ := mvL_inv (thr := thr) V G (rl.take k) _ _ _ (Inv.init V hT hO) (Acc.init hT.1) (fun x hx => hr x (List.mem_of_mem_take hx)) _ _ (Lay15.init hT.1)
  exact ⟨φ, I, A⟩
/-- The state when k old objects are scanned, too. -/
theorem olds_at (V : Wd n m C f0 Y D T0 O0) (G : Yg n m C f0 Y D O0 yg) (hcl : ∀ o, o ∈ Y ∨ o ∈ D → ∀ i : Nat, (i : Int) < oR n m C f0 o → f0 (o + 2 + i).toNat = 0 ∨ f0 (o + 2 + i).toNat ∈ Y ∨ f0 (o + 2 + i).toNat ∈ D)
    (hT : T0.t = T0.f ∧ T0.f ≤ T0.e) (hO : O0.t ≤ O0.e) (hnD : D.Nodup) {rl : List Int} (hr : ∀ x, x ∈ rl → x = 0 ∨ x ∈ Y ∨ x ∈ D) (k : Nat) :
    ∃ φ sn LT LO, Inv n m C f0 Y D T0 O0 φ sn (scL (scn n m C yg thr) (D.take k) (mvL (mvd n m C yg thr) rl ⟨f0, T0, O0⟩).1) ∧ Acc (oK n m C f0) Y T0 O0 φ (scL (scn n m C yg thr) (D.take k) (mvL (mvd n m C yg thr) rl ⟨f0, T0, O0⟩).1) ∧
      Lay15 (oK n m C f0) (fun q => (oH n m C f0 q).age < thr) φ T0 O0 (scL (scn n m C yg thr) (D.take k) (mvL (mvd n m C yg thr) rl ⟨f0, T0, O0⟩).1) LT LO ∧
      (∀ o, o ∈ D.take k → sn o = (oR n m C f0 o).toNat) ∧ ∀ p, p ∉ D.take k → sn p = 0 := by
  obtain ⟨φ1, LT1, LO1, I1, A1, L1, _, ho, hm, hP1⟩ := mvL_inv (thr := thr) V G rl _ _ _ (Inv.init V hT hO) (Acc.init hT.1) hr _ _ (Lay15.init hT.1)
  obtain ⟨φ2, sn2, LT2, LO2, I2, A2, L2, he2, hs2, hp2, hP2⟩ := scL_inv (thr := thr) V G hcl (D.take k) φ1 _ _ I1 A1 (hnD.sublist (List.take_sublist k D)) (fun o ho => ⟨List.mem_of_mem_take ho, rfl⟩) _ _ L1
  exact ⟨φ2, sn2, LT2, LO2, I2, A2, L2, hs2, fun p hp => hp2 p hp⟩
theorem start_SI (V : Wd n m C f0 Y D T0 O0) (G : Yg n m C f0 Y D O0 yg) (hcl : ∀ o, o ∈ Y ∨ o ∈ D → ∀ i : Nat, (i : Int) < oR n m C f0 o → f0 (o + 2 + i).toNat = 0 ∨ f0 (o + 2 + i).toNat ∈ Y ∨ f0 (o + 2 + i).toNat ∈ D)
    (hT : T0.t = T0.f ∧ T0.f ≤ T0.e) (hO : O0.t ≤ O0.e) (hnD : D.Nodup) {rl : List Int} (hr : ∀ x, x ∈ rl → x = 0 ∨ x ∈ Y ∨ x ∈ D) :
    SIx n m C thr f0 Y D T0 O0 T0.f O0.t (scL (scn n m C yg thr) D (mvL (mvd n m C yg thr) rl ⟨f0, T0, O0⟩).1) := by
  obtain ⟨φ, sn, LT, LO, I2, A2, L2, hs2, hp2⟩ := olds_at (thr := thr) V G hcl hT hO hnD hr D.length
  rw [List.take_length] at I2 A2 L2 hs2 hp2
  refine ⟨φ, sn, [], LT, [], LO, I2, A2, L2, .nil _, .nil _, hs2, fun o ho => (by rcases ho with ho | ho <;> cases ho), fun o ho => ?_⟩
  have hφ : φ o ≠ 0 := (L2.all o).2 ho
  refine hp2 _ (fun hd => ?_)
  have h1 := I2.reg o hφ
  have h2 := V.free _ (.inr hd)
  have h3 := (V.obj _ (.inr hd)).2.2.2
  have h4 := (V.obj o (.inl (I2.phi o hφ))).2.2.2
  have := I2.to_
  have := I2.old_
  omega
end
theorem own_cap {w : World} {base : Nat} {v : Value} {l : List Int} (h : OwnInts w base v l) : ∃ a c, v = .slice a l.length c ∧ l.length ≤ c ∧ c ≤ 9223372036854775807 ∧ ((a = none ∧ c = 0) ∨ ∃ g, a = some ⟨g, 0, none⟩) := by
  rcases h.2 with ⟨rfl, h0⟩ | ⟨g, cap, cur, rfl, hb, hgg, hc, hcm, _⟩
  · have : l = [] := List.length_eq_zero_iff.1 h0
    subst this
    exact ⟨none, 0, rfl, Nat.le_refl _, by omega, .inl ⟨rfl, rfl⟩⟩
  · exact ⟨_, cap, rfl, hc, hcm, .inr ⟨g, rfl⟩⟩
def youngV (y : Nat → Sp) (thr : Int) : Value := .agg #[.int .i64 (y 0).f, .int .i64 (y 0).t, .int .i64 (y 0).e, .int .i64 (y 1).f, .int .i64 (y 1).t, .int .i64 (y 1).e, .int .i64 (y 2).f, .int .i64 (y 2).t, .int .i64 (y 2).e, .int .i64 (y 3).f, .int .i64 (y 3).t, .int .i64 (y 3).e, .int .i64 thr]

def RunOut (n m : Nat) (C : Nat → Cl) (f : Nat → Int) (y : Nat → Sp) (G : Nat → List Int) (thr : Int) (rl : List Int) (ba bw bt : Nat) (A : Option Addr) (cap : Nat) (tb mb vb : Nat) (w : World) (e : Ending) (w' : World) : Prop :=
  ((y 0).e - (y 0).t < usedY y ∧ e = .returned (.tuple #[.slice none 0 0, .agg #[.int .i64 0, .int .i64 0, .int .i64 0, .int .i64 0, .int .i64 0, .int .i64 0, .int .i64 0, .int .i64 0, .int .i64 0, .int .i64 0, .int .i64 0, .int .i64 0, .int .i64 0], .int .i64 3]) ∧ Keeps w w') ∨
  (¬ (y 0).e - (y 0).t < usedY y ∧ ∃ s' out ov D', RunScv n m C (frF f (G 1 ++ G 2)) (ygB (y 1) (y 2)) thr (y 3) (y 0) (G 0) rl s' out ∧ e = .returned (.tuple #[ov, youngV (fun j => if j = 3 then emp (y 2) else nxL y s' j) thr, .int .i64 0]) ∧
    St w' ba bw n s'.f bt A m cap C ∧ OwnInts w' w.heap.size ov out ∧ Cd w' tb mb vb D' ∧
    (∀ L, WalkR (atT n s'.f m C) s'.od.t (y 0).f L 0 → ∀ k, D' k = true ↔ ∃ a, a ∈ L ∧ LeadsTo n m C s'.f (ygB (emp (y 1)) s'.tt) a ∧ cardN a = k) ∧ Touch (fun k => k = bw ∨ k = vb) w w')
theorem Rn.grown5 {w w' : World} {ba bw n : Nat} {f : Nat → Int} {bt : Nat} {A : Option Addr} {m cap : Nat} {C : Nat → Cl} {rb : Nat} {y : Nat → Sp} {thr : Int} {tt od : Sp} {olds all : Value} (h : Rn w ba bw n f bt A m cap C rb y thr tt od olds all) {row : Option Nat} (hg : w.grownBy w' row) {N : Nat}
    (hr : ∀ k, row = some k → N ≤ k ∧ rb < k) (hN : ba < N ∧ bw < N ∧ bt < N ∧ ∀ b off, A = some ⟨b, off, none⟩ → b < N) (_ : True := trivial) : Rn w' ba bw n f bt A m cap C rb y thr tt od olds all := by
  have t : Touch (fun k => row = some k) w w' := Touch.grown (Touch.refl _ w) hg (fun k e _ => e)
  obtain ⟨n1, n2, n3, n4⟩ := hN
  exact ⟨h.st.touch t (fun e => by have := hr _ e; omega) (fun e => by have := hr _ e; omega) (fun e => by have := hr _ e; omega) (fun b off e q => by have := hr _ q; have := n4 b off e; omega), h.blk.touch t (fun e => by have := hr _ e; omega), h.ne⟩
/-- While what was moved is scanned. -/
structure RJ (n m : Nat) (C : Nat → Cl) (f : Nat → Int) (y : Nat → Sp) (G : Nat → List Int) (thr : Int) (rl : List Int) (ba bw bt : Nat) (A : Option Addr) (cap : Nat) (tb mb vb : Nat) (D : Nat → Bool) (w : World) (rb : Nat) (olds all : Value) (xa xb : Int) (s : Sc) (ov : Value) (outl : List Int) (wr : World) : Prop where
  R : Rn wr ba bw n s.f bt A m cap C rb y thr s.tt s.od olds all
  BY : BL wr w.heap.size 38 [.int .i64 (y 0).f, .int .i64 (y 0).t, .int .i64 (y 0).e, .int .i64 (y 1).f, .int .i64 (y 1).t, .int .i64 (y 1).e, .int .i64 (y 2).f, .int .i64 (y 2).t, .int .i64 (y 2).e, .int .i64 (y 3).f, .int .i64 (y 3).t, .int .i64 (y 3).e, .int .i64 thr]
  BZ : BL wr (w.heap.size + 1) 38 [.int .i64 0, .int .i64 0, .int .i64 0, .int .i64 0, .int .i64 0, .int .i64 0, .int .i64 0, .int .i64 0, .int .i64 0, .int .i64 0, .int .i64 0, .int .i64 0, .int .i64 0]
  O : OwnInts wr w.heap.size ov outl
  On : ∀ kk, ov.ownBlock = some kk → rb < kk
  si : SIx n m C thr (frF f (G 1 ++ G 2)) (G 1 ++ G 2) (G 0) (y 3) (y 0) xa xb s
  sc : ∀ s', ScR n m C (ygB (y 1) (y 2)) thr xa xb s s' → ScR n m C (ygB (y 1) (y 2)) thr (y 3).f (y 0).t (scL (scn n m C (ygB (y 1) (y 2)) thr) (G 0) (mvL (mvd n m C (ygB (y 1) (y 2)) thr) rl ⟨frF f (G 1 ++ G 2), y 3, y 0⟩).1) s'
  D : Cd wr tb mb vb D
  rb : w.heap.size + 1 < rb
  out : outl = (mvL (mvd n m C (ygB (y 1) (y 2)) thr) rl ⟨frF f (G 1 ++ G 2), y 3, y 0⟩).2
  T : Touch (fun k => k = bw) w wr
theorem RJ.keep {n m : Nat} {C : Nat → Cl} {f : Nat → Int} {y : Nat → Sp} {G : Nat → List Int} {thr : Int} {rl : List Int} {ba bw bt : Nat} {A : Option Addr} {cap : Nat} {tb mb vb : Nat} {D : Nat → Bool} {w : World} {rb : Nat} {olds all : Value} {xa xb : Int} {s : Sc} {ov : Value} {outl : List Int} {wr w' : World}
    (h : RJ n m C f y G thr rl ba bw bt A cap tb mb vb D w rb olds all xa xb s ov outl wr) (k : Keeps wr w') : RJ n m C f y G thr rl ba bw bt A cap tb mb vb D w rb olds all xa xb s ov outl w' :=
  ⟨h.R.keep k, h.BY.keep k, h.BZ.keep k, h.O.keep k, h.On, h.si, h.sc, h.D.keep k, h.rb, h.out, Touch.keep h.T k⟩
section
variable {n m : Nat} {C : Nat → Cl} {f : Nat → Int} {G : Nat → List Int}
variable {w : World} {ba bw bt : Nat} {A : Option Addr} {cap : Nat} {y : Nat → Sp} {thr : Int} {ra : Option Addr} {rc : Nat} {rl : List Int} {tb mb vb : Nat} {D : Nat → Bool}
set_option maxRecDepth 100000 in
set_option maxHeartbeats 4000000 in
theorem run_any (H : HW n m C f y G) (hS : St w ba bw n f bt A m cap C) (hm : 0 < m) (hT : ToOk n y (y 3)) (hRy : RightY n y thr) (hra : Rd w ra rl.length (intF .i64 fun j => rl.getD j 0)) (hrn : rl.length ≤ 1000) (hrt : ∀ x, x ∈ rl → x = 0 ∨ inG G x)
    (hraw : ∀ b off, ra = some ⟨b, off, none⟩ → b ≠ bw ∧ b < w.heap.size) (hD : Cd w tb mb vb D) (hDw : tb ≠ bw ∧ mb ≠ bw ∧ vb ≠ bw) (hDv : vb ≠ ba ∧ vb ≠ bw ∧ vb ≠ bt ∧ ∀ b off, A = some ⟨b, off, none⟩ → b ≠ vb) (hO : (y 0).e ≤ 401) (hdirty : ∀ a, a ∈ G 0 → LeadsTo n m C f (ygB (y 1) (y 2)) a → D (cardN a) = true) :
    Calls Try.prog 7 #[.pointer (some ⟨ba, 0, none⟩), .pointer (some ⟨bt, 0, none⟩), .agg #[.int .i64 (y 0).f, .int .i64 (y 0).t, .int .i64 (y 0).e, .int .i64 (y 1).f, .int .i64 (y 1).t, .int .i64 (y 1).e, .int .i64 (y 2).f, .int .i64 (y 2).t, .int .i64 (y 2).e, .int .i64 (y 3).f, .int .i64 (y 3).t, .int .i64 (y 3).e, .int .i64 thr], .slice ra rl.length rc, .pointer (some ⟨tb, 0, none⟩)] w (RunOut n m C f y G thr rl ba bw bt A cap tb mb vb w) := by
  have hn4 := H.n4
  have hN0 := hS.lows hm
  have hdl := hD.lt
  have hneS := hS.ne
  have hN0b := hN0.2.1
  obtain ⟨hf1, hf2, HWf⟩ := H.fresh (G 1 ++ G 2) (fun a ha => HW.inG_of (.inl ha))
  have hfr : ∀ a, a ∈ G 1 ++ G 2 → (oH n m C (frF f (G 1 ++ G 2)) a).fwd = 0 := fun a ha => by
    show (atT n (frF f (G 1 ++ G 2)) m C a).1.hd.fwd = 0
    rw [hf1 a (HW.inG_of (.inl ha)), if_pos ha]; rfl
  have V := HWf.wd hfr hT
  have Hcl := HWf.hcl
  have hO0 : 0 ≤ (y 0).f ∧ (y 0).f ≤ (y 0).t := by have := H.bd 0 (by omega); omega
  by_cases hfull : (y 0).e - (y 0).t < usedY y
  · have HFull := Lib.hid hfull
    clear hfull
    have HLe := Lib.hid (show ∀ w', Keeps w w' → Calls Try.prog 22 #[.pointer (some ⟨ba, 0, none⟩)] w' fun e w2 => e = .returned (.int .i64 n) ∧ w' = w2 from fun w' k => alen_any ba bw n f w' (hS.keep k).ar)
    have HRi := Lib.hid (show ∀ w', Calls Try.prog 21 #[.agg #[.int .i64 (y 0).f, .int .i64 (y 0).t, .int .i64 (y 0).e, .int .i64 (y 1).f, .int .i64 (y 1).t, .int .i64 (y 1).e, .int .i64 (y 2).f, .int .i64 (y 2).t, .int .i64 (y 2).e, .int .i64 (y 3).f, .int .i64 (y 3).t, .int .i64 (y 3).e, .int .i64 thr], .int .i64 n] w' fun e w2 => e = .returned (.bool true) ∧ Keeps w' w2 from fun w' => right_yes n (by omega) y thr hRy w')
    have HOn := Lib.hid (show ∀ w', Calls Try.prog 15 #[.pointer (some ⟨ba, 0, none⟩), .pointer (some ⟨bt, 0, none⟩)] w' fun e w2 => e = .returned (.agg #[.pointer (some ⟨ba, 0, none⟩), .pointer (some ⟨bt, 0, none⟩)]) ∧ Keeps w' w2 from fun w' => on_any _ _ w')
    have hzY := zero_young
    clear HWf V Hcl hfr hf1 hf2
    go_enter Try.func7, Try.ntmps7
    go_wp2_with fail
    refine scope_loop 0 (fun _ _ => False) (fun _ _ => 0) rfl (fun a' wr h => h.elim) ?_
    intro HH
    have HH2 := Lib.hid HH
    clear HH
    have HH := HH2
    clear HH2
    go_upto_region 1 with fail
    refine named_code (fun W1 hW1 => ?_)
    have K1 : Keeps w W1 := by rw [hW1]; exact ((Touch.refl _ w).alloc _).alloc _
    have BY1 : BL W1 w.heap.size 38 [.int .i64 (y 0).f, .int .i64 (y 0).t, .int .i64 (y 0).e, .int .i64 (y 1).f, .int .i64 (y 1).t, .int .i64 (y 1).e, .int .i64 (y 2).f, .int .i64 (y 2).t, .int .i64 (y 2).e, .int .i64 (y 3).f, .int .i64 (y 3).t, .int .i64 (y 3).e, .int .i64 thr] := by rw [hW1]; exact (BL.new1 w 38 _ [.int .i64 (y 0).f, .int .i64 (y 0).t, .int .i64 (y 0).e, .int .i64 (y 1).f, .int .i64 (y 1).t, .int .i64 (y 1).e, .int .i64 (y 2).f, .int .i64 (y 2).t, .int .i64 (y 2).e, .int .i64 (y 3).f, .int .i64 (y 3).t, .int .i64 (y 3).e, .int .i64 thr] _ rfl rfl).alloc _
    have BZ1 : BL W1 (w.heap.size + 1) 38 [.int .i64 0, .int .i64 0, .int .i64 0, .int .i64 0, .int .i64 0, .int .i64 0, .int .i64 0, .int .i64 0, .int .i64 0, .int .i64 0, .int .i64 0, .int .i64 0, .int .i64 0] := by rw [hW1]; exact BL.new1 _ 38 _ [.int .i64 0, .int .i64 0, .int .i64 0, .int .i64 0, .int .i64 0, .int .i64 0, .int .i64 0, .int .i64 0, .int .i64 0, .int .i64 0, .int .i64 0, .int .i64 0, .int .i64 0] _ (by simp) rfl
    clear hW1
    have HLe1 := Lib.hid (show ∀ w', Keeps W1 w' → Calls Try.prog 22 #[.pointer (some ⟨ba, 0, none⟩)] w' fun e w2 => e = .returned (.int .i64 n) ∧ w' = w2 from fun w' k => HLe.out w' (Keeps.trans K1 k))
    clear HLe
    have HLe := HLe1
    clear HLe1
    have HCY := Lib.hid (show ∀ w', Keeps W1 w' → w'.cell? ⟨w.heap.size, 0, none⟩ = some (.int .i64 (y 0).f) ∧ w'.cell? ⟨w.heap.size, 1, none⟩ = some (.int .i64 (y 0).t) ∧ w'.cell? ⟨w.heap.size, 2, none⟩ = some (.int .i64 (y 0).e) ∧ w'.cell? ⟨w.heap.size, 3, none⟩ = some (.int .i64 (y 1).f) ∧ w'.cell? ⟨w.heap.size, 4, none⟩ = some (.int .i64 (y 1).t) ∧ w'.cell? ⟨w.heap.size, 5, none⟩ = some (.int .i64 (y 1).e) ∧ w'.cell? ⟨w.heap.size, 6, none⟩ = some (.int .i64 (y 2).f) ∧ w'.cell? ⟨w.heap.size, 7, none⟩ = some (.int .i64 (y 2).t) ∧ w'.cell? ⟨w.heap.size, 8, none⟩ = some (.int .i64 (y 2).e) ∧ w'.cell? ⟨w.heap.size, 9, none⟩ = some (.int .i64 (y 3).f) ∧ w'.cell? ⟨w.heap.size, 10, none⟩ = some (.int .i64 (y 3).t) ∧ w'.cell? ⟨w.heap.size, 11, none⟩ = some (.int .i64 (y 3).e) ∧ w'.cell? ⟨w.heap.size, 12, none⟩ = some (.int .i64 thr) from fun w' k => ⟨(BY1.keep k).c 0 _ rfl, (BY1.keep k).c 1 _ rfl, (BY1.keep k).c 2 _ rfl, (BY1.keep k).c 3 _ rfl, (BY1.keep k).c 4 _ rfl, (BY1.keep k).c 5 _ rfl, (BY1.keep k).c 6 _ rfl, (BY1.keep k).c 7 _ rfl, (BY1.keep k).c 8 _ rfl, (BY1.keep k).c 9 _ rfl, (BY1.keep k).c 10 _ rfl, (BY1.keep k).c 11 _ rfl, (BY1.keep k).c 12 _ rfl⟩)
    refine wp_region_noPanic ?_
    refine wp_region_held_drew (S := (fun w' => Keeps W1 w')) (by kernel_rfl) (Touch.refl _ W1).drew (fun hHeld => ?_)
    refine' wpAnyH_take (i := 0) ?hi0_7f ?hs0_7f ?hf0_7f ?hr0_7f ?hQ0_7f ?hy0_7f (by assumption) ?rest0_7f
    case hi0_7f => simp only [List.getElem?_toArray, List.getElem?_cons_zero] <;> rfl
    case hs0_7f => kernel_rfl
    case hf0_7f => kernel_rfl
    case hr0_7f => kernel_rfl
    case hQ0_7f => exact fun _ _ _ h => h
    case hy0_7f => exact Or.inl ⟨by rfl, fun w hSw => by obtain ⟨q0, q1, q2, q3, q4, q5, q6, q7, q8, q9, q10, q11, q12⟩ := HCY.out _ hSw; go_simp <;> (try with_reducible rfl)⟩
    simp only [Act.put, List.setIfInBounds_toArray, List.set_cons_zero, List.set_cons_succ]
    refine' wpAnyH_take (i := 1) ?hi1_7f ?hs1_7f ?hf1_7f ?hr1_7f ?hQ1_7f ?hy1_7f (by assumption) ?rest1_7f
    case hi1_7f => simp only [List.getElem?_toArray, List.getElem?_cons_succ, List.getElem?_cons_zero] <;> rfl
    case hs1_7f => kernel_rfl
    case hf1_7f => kernel_rfl
    case hr1_7f => kernel_rfl
    case hQ1_7f => exact fun _ _ _ h => h
    case hy1_7f => exact Or.inl ⟨by rfl, fun w hSw => by go_simp <;> (try with_reducible rfl)⟩
    simp only [Act.put, List.setIfInBounds_toArray, List.set_cons_zero, List.set_cons_succ]
    refine wpAnyH_ready (rs := [2]) (by kernel_rfl) (by simp) ?_
    refine AllReadyH.cons rfl (fun K hK => ?_) AllReadyH.nil
    go_simp
    with_reducible refine Calls.mono (HLe.out _ hHeld) ?_
    rintro e w2 ⟨rfl, rfl⟩
    go_wp2_with fail
    refine hK.out _ _ hHeld (fun hHeld => ?_)
    clear hK K
    refine wpAnyH_ready (rs := [3]) (by kernel_rfl) (by simp) ?_
    refine AllReadyH.cons rfl (fun K hK => ?_) AllReadyH.nil
    go_simp
    with_reducible refine Calls.mono (HRi.out _) ?_
    rintro e w2 ⟨rfl, k2⟩
    go_wp2_with fail
    refine hK.out _ _ (Keeps.trans hHeld k2) (fun hHeld => ?_)
    clear hK K
    refine' wpAnyH_take (i := 4) ?hi4_7f ?hs4_7f ?hf4_7f ?hr4_7f ?hQ4_7f ?hy4_7f (by assumption) ?rest4_7f
    case hi4_7f => simp only [List.getElem?_toArray, List.getElem?_cons_succ, List.getElem?_cons_zero] <;> rfl
    case hs4_7f => kernel_rfl
    case hf4_7f => kernel_rfl
    case hr4_7f => kernel_rfl
    case hQ4_7f => exact fun _ _ _ h => h
    case hy4_7f => exact Or.inl ⟨by rfl, fun w hSw => by go_simp <;> (try with_reducible rfl)⟩
    simp only [Act.put, List.setIfInBounds_toArray, List.set_cons_zero, List.set_cons_succ]
    refine wpAnyH_done (by kernel_rfl) ?_ _
    refine NoPanic.normal ?_
    go_wp2_with fail
    refine named_code (fun W2 hW2 => ?_)
    have K12 : Keeps W1 W2 := by rw [hW2]; exact hHeld
    have K2 := Keeps.trans K1 K12
    have BY2 := BY1.keep K12
    have BZ2 := BZ1.keep K12
    have z2 := K2.size
    have HCY2 := Lib.hid (show ∀ w', Keeps W2 w' → w'.cell? ⟨w.heap.size, 0, none⟩ = some (.int .i64 (y 0).f) ∧ w'.cell? ⟨w.heap.size, 1, none⟩ = some (.int .i64 (y 0).t) ∧ w'.cell? ⟨w.heap.size, 2, none⟩ = some (.int .i64 (y 0).e) ∧ w'.cell? ⟨w.heap.size, 3, none⟩ = some (.int .i64 (y 1).f) ∧ w'.cell? ⟨w.heap.size, 4, none⟩ = some (.int .i64 (y 1).t) ∧ w'.cell? ⟨w.heap.size, 5, none⟩ = some (.int .i64 (y 1).e) ∧ w'.cell? ⟨w.heap.size, 6, none⟩ = some (.int .i64 (y 2).f) ∧ w'.cell? ⟨w.heap.size, 7, none⟩ = some (.int .i64 (y 2).t) ∧ w'.cell? ⟨w.heap.size, 8, none⟩ = some (.int .i64 (y 2).e) ∧ w'.cell? ⟨w.heap.size, 9, none⟩ = some (.int .i64 (y 3).f) ∧ w'.cell? ⟨w.heap.size, 10, none⟩ = some (.int .i64 (y 3).t) ∧ w'.cell? ⟨w.heap.size, 11, none⟩ = some (.int .i64 (y 3).e) ∧ w'.cell? ⟨w.heap.size, 12, none⟩ = some (.int .i64 thr) from fun w' k => HCY.out w' (Keeps.trans K12 k))
    clear hW2 HCY hHeld BY1 BZ1 K1 HLe HRi
    refine wp_region_noPanic ?_
    refine wp_region_held_drew (S := (fun w' => Keeps W2 w')) (by kernel_rfl) (Touch.refl _ W2).drew (fun hHeld => ?_)
    refine' wpAnyH_take (i := 0) ?hi0_8f ?hs0_8f ?hf0_8f ?hr0_8f ?hQ0_8f ?hy0_8f (by assumption) ?rest0_8f
    case hi0_8f => simp only [List.getElem?_toArray, List.getElem?_cons_zero] <;> rfl
    case hs0_8f => kernel_rfl
    case hf0_8f => kernel_rfl
    case hr0_8f => kernel_rfl
    case hQ0_8f => exact fun _ _ _ h => h
    case hy0_8f => exact Or.inl ⟨by rfl, fun w hSw => by go_simp <;> (try with_reducible rfl)⟩
    simp only [Act.put, List.setIfInBounds_toArray, List.set_cons_zero, List.set_cons_succ]
    refine' wpAnyH_take (i := 1) ?hi1_8f ?hs1_8f ?hf1_8f ?hr1_8f ?hQ1_8f ?hy1_8f (by assumption) ?rest1_8f
    case hi1_8f => simp only [List.getElem?_toArray, List.getElem?_cons_succ, List.getElem?_cons_zero] <;> rfl
    case hs1_8f => kernel_rfl
    case hf1_8f => kernel_rfl
    case hr1_8f => kernel_rfl
    case hQ1_8f => exact fun _ _ _ h => h
    case hy1_8f => exact Or.inl ⟨by rfl, fun w hSw => by go_simp <;> (try with_reducible rfl)⟩
    simp only [Act.put, List.setIfInBounds_toArray, List.set_cons_zero, List.set_cons_succ]
    refine' wpAnyH_take (i := 2) ?hi2_8f ?hs2_8f ?hf2_8f ?hr2_8f ?hQ2_8f ?hy2_8f (by assumption) ?rest2_8f
    case hi2_8f => simp only [List.getElem?_toArray, List.getElem?_cons_succ, List.getElem?_cons_zero] <;> rfl
    case hs2_8f => kernel_rfl
    case hf2_8f => kernel_rfl
    case hr2_8f => kernel_rfl
    case hQ2_8f => exact fun _ _ _ h => h
    case hy2_8f => exact Or.inl ⟨by rfl, fun w hSw => by go_simp <;> (try with_reducible rfl)⟩
    simp only [Act.put, List.setIfInBounds_toArray, List.set_cons_zero, List.set_cons_succ]
    refine' wpAnyH_take (i := 4) ?hi4_8f ?hs4_8f ?hf4_8f ?hr4_8f ?hQ4_8f ?hy4_8f (by assumption) ?rest4_8f
    case hi4_8f => simp only [List.getElem?_toArray, List.getElem?_cons_succ, List.getElem?_cons_zero] <;> rfl
    case hs4_8f => kernel_rfl
    case hf4_8f => kernel_rfl
    case hr4_8f => kernel_rfl
    case hQ4_8f => exact fun _ _ _ h => h
    case hy4_8f => exact Or.inl ⟨by rfl, fun w hSw => by obtain ⟨q0, q1, q2, q3, q4, q5, q6, q7, q8, q9, q10, q11, q12⟩ := HCY2.out _ hSw; go_simp <;> (try with_reducible rfl)⟩
    simp only [Act.put, List.setIfInBounds_toArray, List.set_cons_zero, List.set_cons_succ]
    refine' wpAnyH_take (i := 5) ?hi5_8f ?hs5_8f ?hf5_8f ?hr5_8f ?hQ5_8f ?hy5_8f (by assumption) ?rest5_8f
    case hi5_8f => simp only [List.getElem?_toArray, List.getElem?_cons_succ, List.getElem?_cons_zero] <;> rfl
    case hs5_8f => kernel_rfl
    case hf5_8f => kernel_rfl
    case hr5_8f => kernel_rfl
    case hQ5_8f => exact fun _ _ _ h => h
    case hy5_8f => exact Or.inl ⟨by rfl, fun w hSw => by go_simp <;> (try with_reducible rfl)⟩
    simp only [Act.put, List.setIfInBounds_toArray, List.set_cons_zero, List.set_cons_succ]
    refine' wpAnyH_take (i := 6) ?hi6_8f ?hs6_8f ?hf6_8f ?hr6_8f ?hQ6_8f ?hy6_8f (by assumption) ?rest6_8f
    case hi6_8f => simp only [List.getElem?_toArray, List.getElem?_cons_succ, List.getElem?_cons_zero] <;> rfl
    case hs6_8f => kernel_rfl
    case hf6_8f => kernel_rfl
    case hr6_8f => kernel_rfl
    case hQ6_8f => exact fun _ _ _ h => h
    case hy6_8f => exact Or.inl ⟨by rfl, fun w hSw => by obtain ⟨q0, q1, q2, q3, q4, q5, q6, q7, q8, q9, q10, q11, q12⟩ := HCY2.out _ hSw; go_simp <;> (try with_reducible rfl)⟩
    simp only [Act.put, List.setIfInBounds_toArray, List.set_cons_zero, List.set_cons_succ]
    refine' wpAnyH_take (i := 7) ?hi7_8f ?hs7_8f ?hf7_8f ?hr7_8f ?hQ7_8f ?hy7_8f (by assumption) ?rest7_8f
    case hi7_8f => simp only [List.getElem?_toArray, List.getElem?_cons_succ, List.getElem?_cons_zero] <;> rfl
    case hs7_8f => kernel_rfl
    case hf7_8f => kernel_rfl
    case hr7_8f => kernel_rfl
    case hQ7_8f => exact fun _ _ _ h => h
    case hy7_8f => exact Or.inl ⟨by rfl, fun w hSw => by go_simp <;> (try with_reducible rfl)⟩
    simp only [Act.put, List.setIfInBounds_toArray, List.set_cons_zero, List.set_cons_succ]
    refine' wpAnyH_take (i := 8) ?hi8_8f ?hs8_8f ?hf8_8f ?hr8_8f ?hQ8_8f ?hy8_8f (by assumption) ?rest8_8f
    case hi8_8f => simp only [List.getElem?_toArray, List.getElem?_cons_succ, List.getElem?_cons_zero] <;> rfl
    case hs8_8f => kernel_rfl
    case hf8_8f => kernel_rfl
    case hr8_8f => kernel_rfl
    case hQ8_8f => exact fun _ _ _ h => h
    case hy8_8f => exact Or.inl ⟨by rfl, fun w hSw => by obtain ⟨q0, q1, q2, q3, q4, q5, q6, q7, q8, q9, q10, q11, q12⟩ := HCY2.out _ hSw; go_simp <;> (try with_reducible rfl)⟩
    simp only [Act.put, List.setIfInBounds_toArray, List.set_cons_zero, List.set_cons_succ]
    refine wpAnyH_ready (rs := [3]) (by kernel_rfl) (by simp) ?_
    refine AllReadyH.cons rfl (fun K hK => ?_) AllReadyH.nil
    go_simp
    with_reducible refine Calls.mono (HOn.out _) ?_
    rintro e w3 ⟨rfl, k3⟩
    have hq3 := (Keeps.trans hHeld k3).size
    go_wp2_with fail
    refine hK.out _ _ (Keeps.trans hHeld k3) (fun hHeld => ?_)
    clear hK K
    refine' wpAnyH_take (i := 9) ?hi9_8f ?hs9_8f ?hf9_8f ?hr9_8f ?hQ9_8f ?hy9_8f (by assumption) ?rest9_8f
    case hi9_8f => simp only [List.getElem?_toArray, List.getElem?_cons_succ, List.getElem?_cons_zero] <;> rfl
    case hs9_8f => kernel_rfl
    case hf9_8f => kernel_rfl
    case hr9_8f => kernel_rfl
    case hQ9_8f => exact fun _ _ _ h => h
    case hy9_8f => exact Or.inl ⟨by rfl, fun w hSw => by go_simp <;> (try with_reducible rfl)⟩
    simp only [Act.put, List.setIfInBounds_toArray, List.set_cons_zero, List.set_cons_succ]
    refine wpAnyH_ready (rs := [10]) (by kernel_rfl) (by simp) ?_
    refine AllReadyH.cons rfl (fun K hK => ?_) AllReadyH.nil
    go_simp
    refine hK.out _ _ (Touch.alloc hHeld _) (fun hHeld => ?_)
    clear hK K
    refine' wpAnyH_take (i := 11) ?hi11_8f ?hs11_8f ?hf11_8f ?hr11_8f ?hQ11_8f ?hy11_8f (by assumption) ?rest11_8f
    case hi11_8f => simp only [List.getElem?_toArray, List.getElem?_cons_succ, List.getElem?_cons_zero] <;> rfl
    case hs11_8f => kernel_rfl
    case hf11_8f => kernel_rfl
    case hr11_8f => kernel_rfl
    case hQ11_8f => exact fun _ _ _ h => h
    case hy11_8f => exact Or.inl ⟨by rfl, fun w hSw => by go_simp <;> (try with_reducible rfl)⟩
    simp only [Act.put, List.setIfInBounds_toArray, List.set_cons_zero, List.set_cons_succ]
    refine wpAnyH_done (by kernel_rfl) ?_ _
    refine NoPanic.normal ?_
    go_wp2_with fail
    refine named (fun W3 hW3 => ?_)
    have K23 : Keeps W2 W3 := by rw [hW3]; exact hHeld
    have BR3 : BL W3 w3.heap.size 70 [.pointer (some ⟨ba, 0, none⟩), .pointer (some ⟨ba, 0, none⟩), .pointer (some ⟨bt, 0, none⟩), .int .i64 (y 0).f, .int .i64 (y 0).t, .int .i64 (y 0).e, .int .i64 (y 1).f, .int .i64 (y 1).t, .int .i64 (y 1).e, .int .i64 (y 2).f, .int .i64 (y 2).t, .int .i64 (y 2).e, .int .i64 (y 3).f, .int .i64 (y 3).t, .int .i64 (y 3).e, .int .i64 thr, .int .i64 (y 3).f, .int .i64 (y 3).t, .int .i64 (y 3).e, .int .i64 (y 0).f, .int .i64 (y 0).t, .int .i64 (y 0).e, .slice none 0 0, .slice none 0 0] := by rw [hW3]; exact BL.new1 _ 70 _ [.pointer (some ⟨ba, 0, none⟩), .pointer (some ⟨ba, 0, none⟩), .pointer (some ⟨bt, 0, none⟩), .int .i64 (y 0).f, .int .i64 (y 0).t, .int .i64 (y 0).e, .int .i64 (y 1).f, .int .i64 (y 1).t, .int .i64 (y 1).e, .int .i64 (y 2).f, .int .i64 (y 2).t, .int .i64 (y 2).e, .int .i64 (y 3).f, .int .i64 (y 3).t, .int .i64 (y 3).e, .int .i64 thr, .int .i64 (y 3).f, .int .i64 (y 3).t, .int .i64 (y 3).e, .int .i64 (y 0).f, .int .i64 (y 0).t, .int .i64 (y 0).e, .slice none 0 0, .slice none 0 0] _ rfl (by first | rfl | kernel_rfl)
    have K3 := Keeps.trans K2 K23
    have BY3 := BY2.keep K23
    have BZ3 := BZ2.keep K23
    have lz := BZ2.lt
    clear hW3 hHeld K12 HCY2 BY2 BZ2 HOn
    have lb3 := BR3.lt
    generalize w3.heap.size = rb at *
    have R3 : Rn W3 ba bw n f bt A m cap C rb y thr (y 3) (y 0) (.slice none 0 0) (.slice none 0 0) := ⟨hS.keep K3, BR3, by have := hN0.2.2.2; exact ⟨by omega, by omega, by omega, fun b off e => by have := this b off e; omega⟩⟩
    have HRa := Lib.hid hra
    have hrb1 : ∀ b off, ra = some ⟨b, off, none⟩ → b ≠ rb := fun b off e => by have := hraw b off e; omega
    refine Calls.mono (check_any H R3 hm (HRa.out.keep K3) hrn (fun i hi => hrt _ (getD_mem hi)) hrb1 (hD.keep K3) ⟨by omega, by omega, by omega⟩ hO hdirty) ?_
    rintro e w4 ⟨ov4, av4, he, R4, hOv, hAv, T4⟩
    rw [if_pos HFull.out] at he
    subst he
    have K4 : Keeps w w4 := Touch.trans K3 T4 (fun x e hx => absurd hx (by have : x = rb := e; omega))
    have BZ4 := BZ3.touch T4 (show ¬ (w.heap.size + 1 = rb) by omega)
    have HH5 := Lib.hid K4
    clear K4 hOv hAv R4 R3 BR3 BY3 K3 K23 K2 T4 HH
    go_wp2_with (first | (refine store_bl ?_ 38 (.tmp 11) (.tmp 50) ?_ BZ4 ?_ [.int .i64 0, .int .i64 0, .int .i64 0, .int .i64 0, .int .i64 0, .int .i64 0, .int .i64 0, .int .i64 0, .int .i64 0, .int .i64 0, .int .i64 0, .int .i64 0, .int .i64 0] ?_ sz_young rfl rfl ?_; rfl; rfl; rfl; rfl; intro X BX kX))
    have s0 := BX.c 0 (.int .i64 0) rfl
    have s1 := BX.c 1 (.int .i64 0) rfl
    have s2 := BX.c 2 (.int .i64 0) rfl
    have s3 := BX.c 3 (.int .i64 0) rfl
    have s4 := BX.c 4 (.int .i64 0) rfl
    have s5 := BX.c 5 (.int .i64 0) rfl
    have s6 := BX.c 6 (.int .i64 0) rfl
    have s7 := BX.c 7 (.int .i64 0) rfl
    have s8 := BX.c 8 (.int .i64 0) rfl
    have s9 := BX.c 9 (.int .i64 0) rfl
    have s10 := BX.c 10 (.int .i64 0) rfl
    have s11 := BX.c 11 (.int .i64 0) rfl
    have s12 := BX.c 12 (.int .i64 0) rfl
    simp only [Exit.jump]
    refine bodyPost_ret (v := .tuple #[.slice none 0 0, .agg #[.int .i64 0, .int .i64 0, .int .i64 0, .int .i64 0, .int .i64 0, .int .i64 0, .int .i64 0, .int .i64 0, .int .i64 0, .int .i64 0, .int .i64 0, .int .i64 0, .int .i64 0], .int .i64 3]) (by simp [results, Try.results7, go_sem, s0, s1, s2, s3, s4, s5, s6, s7, s8, s9, s10, s11, s12]) rfl (.inl ⟨HFull.out, rfl, Touch.new HH5.out kX (by omega)⟩)
  have hr3 : ∀ x, x ∈ rl → x = 0 ∨ x ∈ G 1 ++ G 2 ∨ x ∈ G 0 := fun x hx => (hrt x hx).imp_right HW.of_inG
  have HT' := Lib.hid (show (y 3).t = (y 3).f ∧ (y 3).f ≤ (y 3).e from ⟨hT.bd.2.1, hT.bd.2.2.1⟩)
  have hO' : (y 0).t ≤ (y 0).e := (H.bd 0 (by omega)).2.2.1
  have hnD : (G 0).Nodup := (H.tile 0 (by omega)).nd
  have Gy := HWf.yg (show (y 1).t - (y 1).f + ((y 2).t - (y 2).f) ≤ (y 0).e - (y 0).t by unfold usedY at hfull; omega)
  have HLe := Lib.hid (show ∀ w', Keeps w w' → Calls Try.prog 22 #[.pointer (some ⟨ba, 0, none⟩)] w' fun e w2 => e = .returned (.int .i64 n) ∧ w' = w2 from fun w' k => alen_any ba bw n f w' (hS.keep k).ar)
  have HRi := Lib.hid (show ∀ w', Calls Try.prog 21 #[.agg #[.int .i64 (y 0).f, .int .i64 (y 0).t, .int .i64 (y 0).e, .int .i64 (y 1).f, .int .i64 (y 1).t, .int .i64 (y 1).e, .int .i64 (y 2).f, .int .i64 (y 2).t, .int .i64 (y 2).e, .int .i64 (y 3).f, .int .i64 (y 3).t, .int .i64 (y 3).e, .int .i64 thr], .int .i64 n] w' fun e w2 => e = .returned (.bool true) ∧ Keeps w' w2 from fun w' => right_yes n (by omega) y thr hRy w')
  have HOn := Lib.hid (show ∀ w', Calls Try.prog 15 #[.pointer (some ⟨ba, 0, none⟩), .pointer (some ⟨bt, 0, none⟩)] w' fun e w2 => e = .returned (.agg #[.pointer (some ⟨ba, 0, none⟩), .pointer (some ⟨bt, 0, none⟩)]) ∧ Keeps w' w2 from fun w' => on_any _ _ w')
  have hzY := zero_young
  have HScan := Lib.hid (show ∀ rb olds all s w', Rn w' ba bw n s.f bt A m cap C rb y thr s.tt s.od olds all → ∀ xa xb, SIx n m C thr (frF f (G 1 ++ G 2)) (G 1 ++ G 2) (G 0) (y 3) (y 0) xa xb s →
      (xa < s.tt.t → Calls Try.prog 26 #[.pointer (some ⟨rb, 0, none⟩), .int .i64 xa] w' (MvOut ba bw n bt A m cap C rb y thr olds all (scn n m C (ygB (y 1) (y 2)) thr s xa) w')) ∧
      (xb < s.od.t → Calls Try.prog 26 #[.pointer (some ⟨rb, 0, none⟩), .int .i64 xb] w' (MvOut ba bw n bt A m cap C rb y thr olds all (scn n m C (ygB (y 1) (y 2)) thr s xb) w')) from fun rb olds all s w' hR xa xb ⟨φ, sn, L1, L2, M1, M2, h⟩ => by
    refine ⟨fun h1 => ?_, fun h1 => ?_⟩
    · obtain ⟨o, _, _, _, _, _, _, q1, q2, q3, _⟩ := SI.to_ V Gy Hcl h h1
      rw [← q2]
      exact scan_any V Gy Hcl h.I h.A hR hm hO0 (.inr q1) q3
    · obtain ⟨o, _, _, _, _, _, _, q1, q2, q3, _⟩ := SI.old_ V Gy Hcl h h1
      rw [← q2]
      exact scan_any V Gy Hcl h.I h.A hR hm hO0 (.inr q1) q3)
  have HStep := Lib.hid (show ∀ xa xb s, SIx n m C thr (frF f (G 1 ++ G 2)) (G 1 ++ G 2) (G 0) (y 3) (y 0) xa xb s → ((y 3).f ≤ xa ∧ xa ≤ s.tt.t ∧ s.tt.t ≤ (y 3).e ∧ (y 0).t ≤ xb ∧ xb ≤ s.od.t ∧ s.od.t ≤ (y 0).e) ∧
      (xa < s.tt.t → SIx n m C thr (frF f (G 1 ++ G 2)) (G 1 ++ G 2) (G 0) (y 3) (y 0) (scn n m C (ygB (y 1) (y 2)) thr s xa).2 xb (scn n m C (ygB (y 1) (y 2)) thr s xa).1 ∧ xa < (scn n m C (ygB (y 1) (y 2)) thr s xa).2) ∧
      (xb < s.od.t → SIx n m C thr (frF f (G 1 ++ G 2)) (G 1 ++ G 2) (G 0) (y 3) (y 0) xa (scn n m C (ygB (y 1) (y 2)) thr s xb).2 (scn n m C (ygB (y 1) (y 2)) thr s xb).1 ∧ xb < (scn n m C (ygB (y 1) (y 2)) thr s xb).2) from fun xa xb s ⟨φ, sn, L1, L2, M1, M2, h⟩ => by
    have h3 := h.bd V
    have h4 := h.I.to_
    have h5 := h.I.old_
    refine ⟨⟨h3.1, h3.2.1, by omega, h3.2.2.1, h3.2.2.2, by omega⟩, fun h1 => ?_, fun h1 => ?_⟩
    · obtain ⟨o, φ1, sn1, A1, A2, A3, A4, q1, q2, q3, q4, q5, _⟩ := SI.to_ (thr := thr) (yg := ygB (y 1) (y 2)) V Gy Hcl h h1
      have hk := (V.obj o (.inl (h.I.phi o q1))).2.2.2
      rw [q4]
      exact ⟨⟨φ1, sn1, A1, A2, A3, A4, q5⟩, by omega⟩
    · obtain ⟨o, φ1, sn1, A1, A2, A3, A4, q1, q2, q3, q4, q5, _⟩ := SI.old_ (thr := thr) (yg := ygB (y 1) (y 2)) V Gy Hcl h h1
      have hk := (V.obj o (.inl (h.I.phi o q1))).2.2.2
      rw [q4]
      exact ⟨⟨φ1, sn1, A1, A2, A3, A4, q5⟩, by omega⟩)
  go_enter Try.func7, Try.ntmps7
  go_wp2_with fail
  refine scope_loop 0 (fun a' wr => a'.tmps.size = 163 ∧ a'.defers = [] ∧ ∃ (rb : Nat) (olds all : Value) (xa xb : Int) (s : Sc) (ov : Value) (outl : List Int), fr a' 4 = .pointer (some ⟨tb, 0, none⟩) ∧ fr a' 7 = .pointer (some ⟨w.heap.size, 0, none⟩) ∧ fr a' 11 = .pointer (some ⟨w.heap.size + 1, 0, none⟩) ∧ fr a' 13 = .pointer (some ⟨rb, 0, none⟩) ∧ fr a' 15 = ov ∧ fr a' 20 = .int .i64 xa ∧ fr a' 21 = .int .i64 xb ∧ RJ n m C f y G thr rl ba bw bt A cap tb mb vb D w rb olds all xa xb s ov outl wr) (fun a' _ => ((y 3).e - intOf (fr a' 20) + ((y 0).e - intOf (fr a' 21))).toNat) rfl ?_ ?_
  · rintro a' wr ⟨hs, hd, rb, olds, all, xa, xb, s, ov, outl, h_4, h_7, h_11, h_13, h_15, h_20, h_21, hJ⟩
    rw [frame163 a' hs hd]
    clear hs hd
    generalize fr a' = T at *
    rw [show (List.range 163).map T = [T 0, T 1, T 2, T 3, T 4, T 5, T 6, T 7, T 8, T 9, T 10, T 11, T 12, T 13, T 14, T 15, T 16, T 17, T 18, T 19, T 20, T 21, T 22, T 23, T 24, T 25, T 26, T 27, T 28, T 29, T 30, T 31, T 32, T 33, T 34, T 35, T 36, T 37, T 38, T 39, T 40, T 41, T 42, T 43, T 44, T 45, T 46, T 47, T 48, T 49, T 50, T 51, T 52, T 53, T 54, T 55, T 56, T 57, T 58, T 59, T 60, T 61, T 62, T 63, T 64, T 65, T 66, T 67, T 68, T 69, T 70, T 71, T 72, T 73, T 74, T 75, T 76, T 77, T 78, T 79, T 80, T 81, T 82, T 83, T 84, T 85, T 86, T 87, T 88, T 89, T 90, T 91, T 92, T 93, T 94, T 95, T 96, T 97, T 98, T 99, T 100, T 101, T 102, T 103, T 104, T 105, T 106, T 107, T 108, T 109, T 110, T 111, T 112, T 113, T 114, T 115, T 116, T 117, T 118, T 119, T 120, T 121, T 122, T 123, T 124, T 125, T 126, T 127, T 128, T 129, T 130, T 131, T 132, T 133, T 134, T 135, T 136, T 137, T 138, T 139, T 140, T 141, T 142, T 143, T 144, T 145, T 146, T 147, T 148, T 149, T 150, T 151, T 152, T 153, T 154, T 155, T 156, T 157, T 158, T 159, T 160, T 161, T 162] from rfl, h_4, h_7, h_11, h_13, h_15, h_20, h_21]
    clear h_4 h_7 h_11 h_13 h_15 h_20 h_21
    obtain ⟨hR, hBY, hBZ, hO, hOn, hsi, hsc, hD, hrb, hout, hTw⟩ := hJ
    have l1 := hR.blk.lt
    have l2 := hBY.lt
    have l3 := hBZ.lt
    have c17 := hR.blk.c 17 _ rfl
    have c20 := hR.blk.c 20 _ rfl
    by_cases h1 : xa < s.tt.t
    · go_wp2_with fail
      refine Calls.mono ((HScan.out rb olds all s wr hR xa xb hsi).1 h1) ?_
      rintro e w2 ⟨rfl, R2, t2⟩
      have hstp := (HStep.out xa xb s hsi).2.1 h1
      have hbd0 := (HStep.out xa xb s hsi).1
      have hbd1 := (HStep.out _ _ _ hstp.1).1
      have hBY2 := hBY.touch t2 (by omega)
      have hBZ2 := hBZ.touch t2 (by omega)
      have hO2 := hO.touch t2 (fun kk e h => by have h5 := hOn kk e; omega)
      have hD2 := hD.touch t2 (by omega) (by omega) (by omega)
      have hT2 : Touch (fun k => k = bw) w w2 := Touch.trans hTw t2 (fun x e hx => e.elim (fun e => by omega) id)
      have HZ := Lib.hid (show RJ n m C f y G thr rl ba bw bt A cap tb mb vb D w rb olds all (scn n m C (ygB (y 1) (y 2)) thr s xa).2 xb (scn n m C (ygB (y 1) (y 2)) thr s xa).1 ov outl w2 from ⟨R2, hBY2, hBZ2, hO2, hOn, hstp.1, (fun s' q => hsc s' (.to_ h1 q)), hD2, hrb, hout, hT2⟩)
      have HM := Lib.hid (And.intro hstp.2 (And.intro hbd0 hbd1))
      clear hstp hbd0 hbd1 hBY2 hBZ2 hO2 hD2 hT2 R2 t2 hR hBY hBZ hO hsi hsc hTw hOn hD
      generalize scn n m C (ygB (y 1) (y 2)) thr s xa = p at *
      go_wp2_with fail
      go_step3
      refine ⟨rfl, ⟨rfl, rfl, rb, olds, all, p.2, xb, p.1, ov, outl, rfl, rfl, rfl, rfl, rfl, rfl, rfl, HZ.out⟩, ?_⟩
      have hM := HM.out
      simp only [intOf, fr]
      simp
      omega
    · have h1d : decide (xa < s.tt.t) = false := decide_eq_false h1
      by_cases h2 : xb < s.od.t
      · go_wp2_with fail
        refine Calls.mono ((HScan.out rb olds all s wr hR xa xb hsi).2 h2) ?_
        rintro e w2 ⟨rfl, R2, t2⟩
        have hstp := (HStep.out xa xb s hsi).2.2 h2
        have hbd0 := (HStep.out xa xb s hsi).1
        have hbd1 := (HStep.out _ _ _ hstp.1).1
        have hBY2 := hBY.touch t2 (by omega)
        have hBZ2 := hBZ.touch t2 (by omega)
        have hO2 := hO.touch t2 (fun kk e h => by have h5 := hOn kk e; omega)
        have hD2 := hD.touch t2 (by omega) (by omega) (by omega)
        have hT2 : Touch (fun k => k = bw) w w2 := Touch.trans hTw t2 (fun x e hx => e.elim (fun e => by omega) id)
        have HZ := Lib.hid (show RJ n m C f y G thr rl ba bw bt A cap tb mb vb D w rb olds all xa (scn n m C (ygB (y 1) (y 2)) thr s xb).2 (scn n m C (ygB (y 1) (y 2)) thr s xb).1 ov outl w2 from ⟨R2, hBY2, hBZ2, hO2, hOn, hstp.1, (fun s' q => hsc s' (.old_ (by omega) h2 q)), hD2, hrb, hout, hT2⟩)
        have HM := Lib.hid (And.intro hstp.2 (And.intro hbd0 hbd1))
        clear hstp hbd0 hbd1 hBY2 hBZ2 hO2 hD2 hT2 R2 t2 hR hBY hBZ hO hsi hsc hTw hOn hD
        generalize scn n m C (ygB (y 1) (y 2)) thr s xb = p at *
        go_wp2_with fail
        go_step3
        refine ⟨rfl, ⟨rfl, rfl, rb, olds, all, xa, p.2, p.1, ov, outl, rfl, rfl, rfl, rfl, rfl, rfl, rfl, HZ.out⟩, ?_⟩
        have hM := HM.out
        simp only [intOf, fr]
        simp
        omega
      · have h2d : decide (xb < s.od.t) = false := decide_eq_false h2
        have hRun : RunScv n m C (frF f (G 1 ++ G 2)) (ygB (y 1) (y 2)) thr (y 3) (y 0) (G 0) rl s outl := ⟨hout, hsc s (.done h1 h2)⟩
        obtain ⟨φ, sn, A1, A2, A3, A4, hSI⟩ := hsi
        obtain ⟨hL15, hsn⟩ := hSI.done V h1 h2
        have HX := HWf.next hfr hT hSI.I hsn hL15
        have hod := hSI.I.old_
        have htt := hSI.I.to_
        generalize nxG G φ A1 A3 = GG at *
        have HOd := Lib.hid hod
        have HTt := Lib.hid htt
        clear hod htt
        have HRun := Lib.hid hRun
        have HHX := Lib.hid HX
        clear hRun hsc hSI hL15 hsn HX HScan HStep
        have hb1 := (hRy.one 1 (by omega)).1
        have hb2 := (hRy.one 2 (by omega)).1
        have HE1 := Lib.hid (show ∀ w', Calls Try.prog 27 #[.agg #[.int .i64 (y 1).f, .int .i64 (y 1).t, .int .i64 (y 1).e]] w' fun e w2 => e = .returned (.agg #[.int .i64 (y 1).f, .int .i64 (y 1).f, .int .i64 (y 1).e]) ∧ Keeps w' w2 from fun w' => empty_any (y 1) w' hb1)
        have HE2 := Lib.hid (show ∀ w', Calls Try.prog 27 #[.agg #[.int .i64 (y 2).f, .int .i64 (y 2).t, .int .i64 (y 2).e]] w' fun e w2 => e = .returned (.agg #[.int .i64 (y 2).f, .int .i64 (y 2).f, .int .i64 (y 2).e]) ∧ Keeps w' w2 from fun w' => empty_any (y 2) w' hb2)
        have HC24 := Lib.hid (show ∀ w', Keeps wr w' → w'.cell? ⟨rb, 16, none⟩ = some (.int .i64 s.tt.f) ∧ w'.cell? ⟨rb, 17, none⟩ = some (.int .i64 s.tt.t) ∧ w'.cell? ⟨rb, 18, none⟩ = some (.int .i64 s.tt.e) ∧ w'.cell? ⟨rb, 19, none⟩ = some (.int .i64 s.od.f) ∧ w'.cell? ⟨rb, 20, none⟩ = some (.int .i64 s.od.t) ∧ w'.cell? ⟨rb, 21, none⟩ = some (.int .i64 s.od.e) ∧ w'.cell? ⟨w.heap.size, 3, none⟩ = some (.int .i64 (y 1).f) ∧ w'.cell? ⟨w.heap.size, 4, none⟩ = some (.int .i64 (y 1).t) ∧ w'.cell? ⟨w.heap.size, 5, none⟩ = some (.int .i64 (y 1).e) ∧ w'.cell? ⟨w.heap.size, 6, none⟩ = some (.int .i64 (y 2).f) ∧ w'.cell? ⟨w.heap.size, 7, none⟩ = some (.int .i64 (y 2).t) ∧ w'.cell? ⟨w.heap.size, 8, none⟩ = some (.int .i64 (y 2).e) ∧ w'.cell? ⟨w.heap.size, 12, none⟩ = some (.int .i64 thr) from fun w' k => ⟨(hR.blk.keep k).c 16 _ rfl, (hR.blk.keep k).c 17 _ rfl, (hR.blk.keep k).c 18 _ rfl, (hR.blk.keep k).c 19 _ rfl, (hR.blk.keep k).c 20 _ rfl, (hR.blk.keep k).c 21 _ rfl, (hBY.keep k).c 3 _ rfl, (hBY.keep k).c 4 _ rfl, (hBY.keep k).c 5 _ rfl, (hBY.keep k).c 6 _ rfl, (hBY.keep k).c 7 _ rfl, (hBY.keep k).c 8 _ rfl, (hBY.keep k).c 12 _ rfl⟩)
        have hzY := zero_young
        clear hb1 hb2
        have HR := Lib.hid hR
        have HBY := Lib.hid hBY
        have HBZ := Lib.hid hBZ
        have HO_ := Lib.hid hO
        have HOn := Lib.hid hOn
        have HD := Lib.hid hD
        have HTw := Lib.hid hTw
        clear hR hBY hBZ hO hOn hD hTw hout
        go_upto_region 24 with fail
        clear c17 c20
        go_cut [22] from 111 to 127 (fun v wx => ∃ nb, v = .pointer (some ⟨nb, 0, none⟩) ∧ BL wx nb 38 [.int .i64 s.od.f, .int .i64 s.od.t, .int .i64 s.od.e, .int .i64 (y 1).f, .int .i64 (y 1).f, .int .i64 (y 1).e, .int .i64 s.tt.f, .int .i64 s.tt.t, .int .i64 s.tt.e, .int .i64 (y 2).f, .int .i64 (y 2).f, .int .i64 (y 2).e, .int .i64 thr] ∧ wr.heap.size ≤ nb ∧ Keeps wr wx)
        case first =>
          refine wp_region_noPanic ?_
          refine wp_region_held_drew (S := (fun w' => Keeps wr w')) (by kernel_rfl) (Touch.refl _ wr).drew (fun hHeld => ?_)
          refine' wpAnyH_take (i := 0) ?hi0_1 ?hs0_1 ?hf0_1 ?hr0_1 ?hQ0_1 ?hy0_1 (by assumption) ?rest0_1
          case hi0_1 => simp only [List.getElem?_toArray, List.getElem?_cons_zero] <;> rfl
          case hs0_1 => kernel_rfl
          case hf0_1 => kernel_rfl
          case hr0_1 => kernel_rfl
          case hQ0_1 => exact fun _ _ _ h => h
          case hy0_1 => exact Or.inl ⟨by rfl, fun w hSw => by go_simp <;> (try with_reducible rfl)⟩
          simp only [Act.put, List.setIfInBounds_toArray, List.set_cons_zero, List.set_cons_succ]
          refine' wpAnyH_take (i := 1) ?hi1_1 ?hs1_1 ?hf1_1 ?hr1_1 ?hQ1_1 ?hy1_1 (by assumption) ?rest1_1
          case hi1_1 => simp only [List.getElem?_toArray, List.getElem?_cons_succ, List.getElem?_cons_zero] <;> rfl
          case hs1_1 => kernel_rfl
          case hf1_1 => kernel_rfl
          case hr1_1 => kernel_rfl
          case hQ1_1 => exact fun _ _ _ h => h
          case hy1_1 => exact Or.inl ⟨by rfl, fun w hSw => by go_simp <;> (try with_reducible rfl)⟩
          simp only [Act.put, List.setIfInBounds_toArray, List.set_cons_zero, List.set_cons_succ]
          refine' wpAnyH_take (i := 2) ?hi2_1 ?hs2_1 ?hf2_1 ?hr2_1 ?hQ2_1 ?hy2_1 (by assumption) ?rest2_1
          case hi2_1 => simp only [List.getElem?_toArray, List.getElem?_cons_succ, List.getElem?_cons_zero] <;> rfl
          case hs2_1 => kernel_rfl
          case hf2_1 => kernel_rfl
          case hr2_1 => kernel_rfl
          case hQ2_1 => exact fun _ _ _ h => h
          case hy2_1 => exact Or.inl ⟨by rfl, fun w hSw => by go_simp <;> (try with_reducible rfl)⟩
          simp only [Act.put, List.setIfInBounds_toArray, List.set_cons_zero, List.set_cons_succ]
          refine' wpAnyH_take (i := 3) ?hi3_1 ?hs3_1 ?hf3_1 ?hr3_1 ?hQ3_1 ?hy3_1 (by assumption) ?rest3_1
          case hi3_1 => simp only [List.getElem?_toArray, List.getElem?_cons_succ, List.getElem?_cons_zero] <;> rfl
          case hs3_1 => kernel_rfl
          case hf3_1 => kernel_rfl
          case hr3_1 => kernel_rfl
          case hQ3_1 => exact fun _ _ _ h => h
          case hy3_1 => exact Or.inl ⟨by rfl, fun w hSw => by obtain ⟨q0, q1, q2, q3, q4, q5, q6, q7, q8, q9, q10, q11, q12⟩ := HC24.out _ hSw; go_simp <;> (try with_reducible rfl)⟩
          simp only [Act.put, List.setIfInBounds_toArray, List.set_cons_zero, List.set_cons_succ]
          refine' wpAnyH_take (i := 4) ?hi4_1 ?hs4_1 ?hf4_1 ?hr4_1 ?hQ4_1 ?hy4_1 (by assumption) ?rest4_1
          case hi4_1 => simp only [List.getElem?_toArray, List.getElem?_cons_succ, List.getElem?_cons_zero] <;> rfl
          case hs4_1 => kernel_rfl
          case hf4_1 => kernel_rfl
          case hr4_1 => kernel_rfl
          case hQ4_1 => exact fun _ _ _ h => h
          case hy4_1 => exact Or.inl ⟨by rfl, fun w hSw => by go_simp <;> (try with_reducible rfl)⟩
          simp only [Act.put, List.setIfInBounds_toArray, List.set_cons_zero, List.set_cons_succ]
          refine' wpAnyH_take (i := 5) ?hi5_1 ?hs5_1 ?hf5_1 ?hr5_1 ?hQ5_1 ?hy5_1 (by assumption) ?rest5_1
          case hi5_1 => simp only [List.getElem?_toArray, List.getElem?_cons_succ, List.getElem?_cons_zero] <;> rfl
          case hs5_1 => kernel_rfl
          case hf5_1 => kernel_rfl
          case hr5_1 => kernel_rfl
          case hQ5_1 => exact fun _ _ _ h => h
          case hy5_1 => exact Or.inl ⟨by rfl, fun w hSw => by obtain ⟨q0, q1, q2, q3, q4, q5, q6, q7, q8, q9, q10, q11, q12⟩ := HC24.out _ hSw; go_simp <;> (try with_reducible rfl)⟩
          simp only [Act.put, List.setIfInBounds_toArray, List.set_cons_zero, List.set_cons_succ]
          refine' wpAnyH_take (i := 7) ?hi7_1 ?hs7_1 ?hf7_1 ?hr7_1 ?hQ7_1 ?hy7_1 (by assumption) ?rest7_1
          case hi7_1 => simp only [List.getElem?_toArray, List.getElem?_cons_succ, List.getElem?_cons_zero] <;> rfl
          case hs7_1 => kernel_rfl
          case hf7_1 => kernel_rfl
          case hr7_1 => kernel_rfl
          case hQ7_1 => exact fun _ _ _ h => h
          case hy7_1 => exact Or.inl ⟨by rfl, fun w hSw => by go_simp <;> (try with_reducible rfl)⟩
          simp only [Act.put, List.setIfInBounds_toArray, List.set_cons_zero, List.set_cons_succ]
          refine' wpAnyH_take (i := 8) ?hi8_1 ?hs8_1 ?hf8_1 ?hr8_1 ?hQ8_1 ?hy8_1 (by assumption) ?rest8_1
          case hi8_1 => simp only [List.getElem?_toArray, List.getElem?_cons_succ, List.getElem?_cons_zero] <;> rfl
          case hs8_1 => kernel_rfl
          case hf8_1 => kernel_rfl
          case hr8_1 => kernel_rfl
          case hQ8_1 => exact fun _ _ _ h => h
          case hy8_1 => exact Or.inl ⟨by rfl, fun w hSw => by go_simp <;> (try with_reducible rfl)⟩
          simp only [Act.put, List.setIfInBounds_toArray, List.set_cons_zero, List.set_cons_succ]
          refine' wpAnyH_take (i := 9) ?hi9_1 ?hs9_1 ?hf9_1 ?hr9_1 ?hQ9_1 ?hy9_1 (by assumption) ?rest9_1
          case hi9_1 => simp only [List.getElem?_toArray, List.getElem?_cons_succ, List.getElem?_cons_zero] <;> rfl
          case hs9_1 => kernel_rfl
          case hf9_1 => kernel_rfl
          case hr9_1 => kernel_rfl
          case hQ9_1 => exact fun _ _ _ h => h
          case hy9_1 => exact Or.inl ⟨by rfl, fun w hSw => by go_simp <;> (try with_reducible rfl)⟩
          simp only [Act.put, List.setIfInBounds_toArray, List.set_cons_zero, List.set_cons_succ]
          refine' wpAnyH_take (i := 10) ?hi10_1 ?hs10_1 ?hf10_1 ?hr10_1 ?hQ10_1 ?hy10_1 (by assumption) ?rest10_1
          case hi10_1 => simp only [List.getElem?_toArray, List.getElem?_cons_succ, List.getElem?_cons_zero] <;> rfl
          case hs10_1 => kernel_rfl
          case hf10_1 => kernel_rfl
          case hr10_1 => kernel_rfl
          case hQ10_1 => exact fun _ _ _ h => h
          case hy10_1 => exact Or.inl ⟨by rfl, fun w hSw => by obtain ⟨q0, q1, q2, q3, q4, q5, q6, q7, q8, q9, q10, q11, q12⟩ := HC24.out _ hSw; go_simp <;> (try with_reducible rfl)⟩
          simp only [Act.put, List.setIfInBounds_toArray, List.set_cons_zero, List.set_cons_succ]
          refine' wpAnyH_take (i := 11) ?hi11_1 ?hs11_1 ?hf11_1 ?hr11_1 ?hQ11_1 ?hy11_1 (by assumption) ?rest11_1
          case hi11_1 => simp only [List.getElem?_toArray, List.getElem?_cons_succ, List.getElem?_cons_zero] <;> rfl
          case hs11_1 => kernel_rfl
          case hf11_1 => kernel_rfl
          case hr11_1 => kernel_rfl
          case hQ11_1 => exact fun _ _ _ h => h
          case hy11_1 => exact Or.inl ⟨by rfl, fun w hSw => by go_simp <;> (try with_reducible rfl)⟩
          simp only [Act.put, List.setIfInBounds_toArray, List.set_cons_zero, List.set_cons_succ]
          refine' wpAnyH_take (i := 12) ?hi12_1 ?hs12_1 ?hf12_1 ?hr12_1 ?hQ12_1 ?hy12_1 (by assumption) ?rest12_1
          case hi12_1 => simp only [List.getElem?_toArray, List.getElem?_cons_succ, List.getElem?_cons_zero] <;> rfl
          case hs12_1 => kernel_rfl
          case hf12_1 => kernel_rfl
          case hr12_1 => kernel_rfl
          case hQ12_1 => exact fun _ _ _ h => h
          case hy12_1 => exact Or.inl ⟨by rfl, fun w hSw => by obtain ⟨q0, q1, q2, q3, q4, q5, q6, q7, q8, q9, q10, q11, q12⟩ := HC24.out _ hSw; go_simp <;> (try with_reducible rfl)⟩
          simp only [Act.put, List.setIfInBounds_toArray, List.set_cons_zero, List.set_cons_succ]
          refine' wpAnyH_take (i := 14) ?hi14_1 ?hs14_1 ?hf14_1 ?hr14_1 ?hQ14_1 ?hy14_1 (by assumption) ?rest14_1
          case hi14_1 => simp only [List.getElem?_toArray, List.getElem?_cons_succ, List.getElem?_cons_zero] <;> rfl
          case hs14_1 => kernel_rfl
          case hf14_1 => kernel_rfl
          case hr14_1 => kernel_rfl
          case hQ14_1 => exact fun _ _ _ h => h
          case hy14_1 => exact Or.inl ⟨by rfl, fun w hSw => by go_simp <;> (try with_reducible rfl)⟩
          simp only [Act.put, List.setIfInBounds_toArray, List.set_cons_zero, List.set_cons_succ]
          refine' wpAnyH_take (i := 15) ?hi15_1 ?hs15_1 ?hf15_1 ?hr15_1 ?hQ15_1 ?hy15_1 (by assumption) ?rest15_1
          case hi15_1 => simp only [List.getElem?_toArray, List.getElem?_cons_succ, List.getElem?_cons_zero] <;> rfl
          case hs15_1 => kernel_rfl
          case hf15_1 => kernel_rfl
          case hr15_1 => kernel_rfl
          case hQ15_1 => exact fun _ _ _ h => h
          case hy15_1 => exact Or.inl ⟨by rfl, fun w hSw => by obtain ⟨q0, q1, q2, q3, q4, q5, q6, q7, q8, q9, q10, q11, q12⟩ := HC24.out _ hSw; go_simp <;> (try with_reducible rfl)⟩
          simp only [Act.put, List.setIfInBounds_toArray, List.set_cons_zero, List.set_cons_succ]
          refine wpAnyH_ready (rs := [6, 17]) (by kernel_rfl) (by simp) ?_
          refine (AllReadyH.cons rfl (fun K hK => ?_) (AllReadyH.cons rfl (fun K hK => ?_) AllReadyH.nil))
          · go_simp
            with_reducible refine Calls.mono (HE1.out _) ?_
            rintro e v1 ⟨rfl, k1⟩
            go_wp2_with fail
            have hq1 := Keeps.trans hHeld k1
            refine hK.out _ _ hq1 (fun hHeld => ?_)
            clear hK K
            refine wpAnyH_ready (rs := [13, 17]) (by kernel_rfl) (by simp) ?_
            refine (AllReadyH.cons rfl (fun K hK => ?_) (AllReadyH.cons rfl (fun K hK => ?_) AllReadyH.nil))
            · go_simp
              with_reducible refine Calls.mono (HE2.out _) ?_
              rintro e v2 ⟨rfl, k2⟩
              go_wp2_with fail
              have hq2 := Keeps.trans hHeld k2
              refine hK.out _ _ hq2 (fun hHeld => ?_)
              clear hK K
              refine' wpAnyH_take (i := 16) ?hi16_2 ?hs16_2 ?hf16_2 ?hr16_2 ?hQ16_2 ?hy16_2 (by assumption) ?rest16_2
              case hi16_2 => simp only [List.getElem?_toArray, List.getElem?_cons_succ, List.getElem?_cons_zero] <;> rfl
              case hs16_2 => kernel_rfl
              case hf16_2 => kernel_rfl
              case hr16_2 => kernel_rfl
              case hQ16_2 => exact fun _ _ _ h => h
              case hy16_2 => exact Or.inl ⟨by rfl, fun w hSw => by go_simp <;> (try with_reducible rfl)⟩
              simp only [Act.put, List.setIfInBounds_toArray, List.set_cons_zero, List.set_cons_succ]
              refine wpAnyH_ready (rs := [17]) (by kernel_rfl) (by simp) ?_
              refine (AllReadyH.cons rfl (fun K hK => ?_) AllReadyH.nil)
              go_simp
              have B3 : BL (v2.alloc (.cells #[.int .i64 0, .int .i64 0, .int .i64 0, .int .i64 0, .int .i64 0, .int .i64 0, .int .i64 0, .int .i64 0, .int .i64 0, .int .i64 0, .int .i64 0, .int .i64 0, .int .i64 0] 38)) v2.heap.size 38 [.int .i64 0, .int .i64 0, .int .i64 0, .int .i64 0, .int .i64 0, .int .i64 0, .int .i64 0, .int .i64 0, .int .i64 0, .int .i64 0, .int .i64 0, .int .i64 0, .int .i64 0] := BL.new1 _ 38 _ [.int .i64 0, .int .i64 0, .int .i64 0, .int .i64 0, .int .i64 0, .int .i64 0, .int .i64 0, .int .i64 0, .int .i64 0, .int .i64 0, .int .i64 0, .int .i64 0, .int .i64 0] _ rfl rfl
              have hs3 := hHeld.size
              refine hK.out _ _ (Touch.alloc hHeld _) (fun hHeld => ?_)
              clear hK K
              refine wpAnyH_ready (rs := [18]) (by kernel_rfl) (by simp) ?_
              refine (AllReadyH.cons rfl (fun K hK => ?_) AllReadyH.nil)
              rw [if_pos (show Region.wanted _ _ = true from rfl)]
              refine A5.wp_store_bl 38 (.tmp 22) (.tmp 127) rfl B3 rfl [.int .i64 s.od.f, .int .i64 s.od.t, .int .i64 s.od.e, .int .i64 (y 1).f, .int .i64 (y 1).f, .int .i64 (y 1).e, .int .i64 s.tt.f, .int .i64 s.tt.t, .int .i64 s.tt.e, .int .i64 (y 2).f, .int .i64 (y 2).f, .int .i64 (y 2).e, .int .i64 thr] (by first | rfl | kernel_rfl) sz_young rfl rfl ?_
              intro X BX kX
              have hX := Touch.new hHeld kX (show wr.heap.size ≤ v2.heap.size from hs3)
              refine hK.out _ _ hX (fun hHeld => ?_)
              clear hK K
              simp only [Act.put, List.setIfInBounds_toArray, List.set_cons_zero, List.set_cons_succ]
              refine wpAnyH_done (by kernel_rfl) ?_ _
              refine NoPanic.normal ?_
              go_wp2_with fail
              go_meet
              exact ⟨v2.heap.size, rfl, BX, hs3, hHeld⟩
            · go_simp
              have B4 : BL (v1.alloc (.cells #[.int .i64 0, .int .i64 0, .int .i64 0, .int .i64 0, .int .i64 0, .int .i64 0, .int .i64 0, .int .i64 0, .int .i64 0, .int .i64 0, .int .i64 0, .int .i64 0, .int .i64 0] 38)) v1.heap.size 38 [.int .i64 0, .int .i64 0, .int .i64 0, .int .i64 0, .int .i64 0, .int .i64 0, .int .i64 0, .int .i64 0, .int .i64 0, .int .i64 0, .int .i64 0, .int .i64 0, .int .i64 0] := BL.new1 _ 38 _ [.int .i64 0, .int .i64 0, .int .i64 0, .int .i64 0, .int .i64 0, .int .i64 0, .int .i64 0, .int .i64 0, .int .i64 0, .int .i64 0, .int .i64 0, .int .i64 0, .int .i64 0] _ rfl rfl
              have hs4 := hHeld.size
              refine hK.out _ _ (Touch.alloc hHeld _) (fun hHeld => ?_)
              clear hK K
              refine wpAnyH_ready (rs := [13]) (by kernel_rfl) (by simp) ?_
              refine (AllReadyH.cons rfl (fun K hK => ?_) AllReadyH.nil)
              go_simp
              with_reducible refine Calls.mono (HE2.out _) ?_
              rintro e v5 ⟨rfl, k5⟩
              go_wp2_with fail
              have hq5 := Keeps.trans hHeld k5
              have B5 := BL.keep B4 k5
              refine hK.out _ _ hq5 (fun hHeld => ?_)
              clear hK K
              refine' wpAnyH_take (i := 16) ?hi16_3 ?hs16_3 ?hf16_3 ?hr16_3 ?hQ16_3 ?hy16_3 (by assumption) ?rest16_3
              case hi16_3 => simp only [List.getElem?_toArray, List.getElem?_cons_succ, List.getElem?_cons_zero] <;> rfl
              case hs16_3 => kernel_rfl
              case hf16_3 => kernel_rfl
              case hr16_3 => kernel_rfl
              case hQ16_3 => exact fun _ _ _ h => h
              case hy16_3 => exact Or.inl ⟨by rfl, fun w hSw => by go_simp <;> (try with_reducible rfl)⟩
              simp only [Act.put, List.setIfInBounds_toArray, List.set_cons_zero, List.set_cons_succ]
              refine wpAnyH_ready (rs := [18]) (by kernel_rfl) (by simp) ?_
              refine (AllReadyH.cons rfl (fun K hK => ?_) AllReadyH.nil)
              rw [if_pos (show Region.wanted _ _ = true from rfl)]
              refine A5.wp_store_bl 38 (.tmp 22) (.tmp 127) rfl B5 rfl [.int .i64 s.od.f, .int .i64 s.od.t, .int .i64 s.od.e, .int .i64 (y 1).f, .int .i64 (y 1).f, .int .i64 (y 1).e, .int .i64 s.tt.f, .int .i64 s.tt.t, .int .i64 s.tt.e, .int .i64 (y 2).f, .int .i64 (y 2).f, .int .i64 (y 2).e, .int .i64 thr] (by first | rfl | kernel_rfl) sz_young rfl rfl ?_
              intro X BX kX
              have hX := Touch.new hHeld kX (show wr.heap.size ≤ v1.heap.size from hs4)
              refine hK.out _ _ hX (fun hHeld => ?_)
              clear hK K
              simp only [Act.put, List.setIfInBounds_toArray, List.set_cons_zero, List.set_cons_succ]
              refine wpAnyH_done (by kernel_rfl) ?_ _
              refine NoPanic.normal ?_
              go_wp2_with fail
              go_meet
              exact ⟨v1.heap.size, rfl, BX, hs4, hHeld⟩
          · go_simp
            have B6 : BL ((wr.drew).alloc (.cells #[.int .i64 0, .int .i64 0, .int .i64 0, .int .i64 0, .int .i64 0, .int .i64 0, .int .i64 0, .int .i64 0, .int .i64 0, .int .i64 0, .int .i64 0, .int .i64 0, .int .i64 0] 38)) (wr.drew).heap.size 38 [.int .i64 0, .int .i64 0, .int .i64 0, .int .i64 0, .int .i64 0, .int .i64 0, .int .i64 0, .int .i64 0, .int .i64 0, .int .i64 0, .int .i64 0, .int .i64 0, .int .i64 0] := BL.new1 _ 38 _ [.int .i64 0, .int .i64 0, .int .i64 0, .int .i64 0, .int .i64 0, .int .i64 0, .int .i64 0, .int .i64 0, .int .i64 0, .int .i64 0, .int .i64 0, .int .i64 0, .int .i64 0] _ rfl rfl
            have hs6 := hHeld.size
            refine hK.out _ _ (Touch.alloc hHeld _) (fun hHeld => ?_)
            clear hK K
            refine wpAnyH_ready (rs := [6]) (by kernel_rfl) (by simp) ?_
            refine (AllReadyH.cons rfl (fun K hK => ?_) AllReadyH.nil)
            go_simp
            with_reducible refine Calls.mono (HE1.out _) ?_
            rintro e v7 ⟨rfl, k7⟩
            go_wp2_with fail
            have hq7 := Keeps.trans hHeld k7
            have B7 := BL.keep B6 k7
            refine hK.out _ _ hq7 (fun hHeld => ?_)
            clear hK K
            refine wpAnyH_ready (rs := [13]) (by kernel_rfl) (by simp) ?_
            refine (AllReadyH.cons rfl (fun K hK => ?_) AllReadyH.nil)
            go_simp
            with_reducible refine Calls.mono (HE2.out _) ?_
            rintro e v8 ⟨rfl, k8⟩
            go_wp2_with fail
            have hq8 := Keeps.trans hHeld k8
            have B8 := BL.keep B7 k8
            refine hK.out _ _ hq8 (fun hHeld => ?_)
            clear hK K
            refine' wpAnyH_take (i := 16) ?hi16_4 ?hs16_4 ?hf16_4 ?hr16_4 ?hQ16_4 ?hy16_4 (by assumption) ?rest16_4
            case hi16_4 => simp only [List.getElem?_toArray, List.getElem?_cons_succ, List.getElem?_cons_zero] <;> rfl
            case hs16_4 => kernel_rfl
            case hf16_4 => kernel_rfl
            case hr16_4 => kernel_rfl
            case hQ16_4 => exact fun _ _ _ h => h
            case hy16_4 => exact Or.inl ⟨by rfl, fun w hSw => by go_simp <;> (try with_reducible rfl)⟩
            simp only [Act.put, List.setIfInBounds_toArray, List.set_cons_zero, List.set_cons_succ]
            refine wpAnyH_ready (rs := [18]) (by kernel_rfl) (by simp) ?_
            refine (AllReadyH.cons rfl (fun K hK => ?_) AllReadyH.nil)
            rw [if_pos (show Region.wanted _ _ = true from rfl)]
            refine A5.wp_store_bl 38 (.tmp 22) (.tmp 127) rfl B8 rfl [.int .i64 s.od.f, .int .i64 s.od.t, .int .i64 s.od.e, .int .i64 (y 1).f, .int .i64 (y 1).f, .int .i64 (y 1).e, .int .i64 s.tt.f, .int .i64 s.tt.t, .int .i64 s.tt.e, .int .i64 (y 2).f, .int .i64 (y 2).f, .int .i64 (y 2).e, .int .i64 thr] (by first | rfl | kernel_rfl) sz_young rfl rfl ?_
            intro X BX kX
            have hX := Touch.new hHeld kX (show wr.heap.size ≤ (wr.drew).heap.size from hs6)
            refine hK.out _ _ hX (fun hHeld => ?_)
            clear hK K
            simp only [Act.put, List.setIfInBounds_toArray, List.set_cons_zero, List.set_cons_succ]
            refine wpAnyH_done (by kernel_rfl) ?_ _
            refine NoPanic.normal ?_
            go_wp2_with fail
            go_meet
            exact ⟨(wr.drew).heap.size, rfl, BX, hs6, hHeld⟩
        case rest =>
        obtain ⟨wq, rfl⟩ : ∃ wq : World, wq = wc := ⟨_, rfl⟩
        obtain ⟨nb, rfl, bN, hnb, kN⟩ := hcut
        have BRq := HR.out.blk.keep kN
        unfold rnL at BRq
        have zN := kN.size
        have n0 := bN.c 0 _ rfl
        have n1 := bN.c 1 _ rfl
        have n2 := bN.c 2 _ rfl
        have n3 := bN.c 3 _ rfl
        have n4 := bN.c 4 _ rfl
        have n5 := bN.c 5 _ rfl
        have n6 := bN.c 6 _ rfl
        have n7 := bN.c 7 _ rfl
        have n8 := bN.c 8 _ rfl
        have n9 := bN.c 9 _ rfl
        have n10 := bN.c 10 _ rfl
        have n11 := bN.c 11 _ rfl
        have n12 := bN.c 12 _ rfl
        clear HE1 HE2 HC24 hzY
        go_wp2_with (first | (refine load_bl ?_ 38 (.tmp 22) ?_ bN ?_ Try.underlying38 sz_young ?_; rfl; rfl; rfl) | (refine A5.store_at (p := 3) ?_ 38 (.tmp 131) (.tmp 129) ?_ BRq ?_ [.int .i64 s.od.f, .int .i64 s.od.t, .int .i64 s.od.e, .int .i64 (y 1).f, .int .i64 (y 1).f, .int .i64 (y 1).e, .int .i64 s.tt.f, .int .i64 s.tt.t, .int .i64 s.tt.e, .int .i64 (y 2).f, .int .i64 (y 2).f, .int .i64 (y 2).e, .int .i64 thr] [.pointer (some ⟨ba, 0, none⟩), .pointer (some ⟨ba, 0, none⟩), .pointer (some ⟨bt, 0, none⟩), .int .i64 s.od.f, .int .i64 s.od.t, .int .i64 s.od.e, .int .i64 (y 1).f, .int .i64 (y 1).f, .int .i64 (y 1).e, .int .i64 s.tt.f, .int .i64 s.tt.t, .int .i64 s.tt.e, .int .i64 (y 2).f, .int .i64 (y 2).f, .int .i64 (y 2).e, .int .i64 thr, .int .i64 s.tt.f, .int .i64 s.tt.t, .int .i64 s.tt.e, .int .i64 s.od.f, .int .i64 s.od.t, .int .i64 s.od.e, olds, all] ?_ sz_young ?_ rfl ?_ ?_; rfl; rfl; rfl; rfl; exact Nat.le_of_ble_eq_true rfl; rfl; intro X BX kX))
        have zX := kX.size
        have Tq : Touch (fun k => k = rb) wr X := Touch.trans (kN.mono (fun _ h _ => h.elim)) kX (fun x e _ => e)
        refine Calls.mono (cwipe_any (HD.out.touch Tq (by omega) (by omega) (by omega))) ?_
        rintro e w5 ⟨rfl, hD5, o5⟩
        have zw5 := o5.size
        have hne := HR.out.ne
        have BR5 := BX.touch o5 (show ¬ (rb = vb) by omega)
        have bN5 := (bN.touch kX (show ¬ (nb = rb) by omega)).touch o5 (show ¬ (nb = vb) by omega)
        have BZ5 := ((HBZ.out.keep kN).touch kX (show ¬ (w.heap.size + 1 = rb) by omega)).touch o5 (show ¬ (w.heap.size + 1 = vb) by omega)
        have HO5 := Lib.hid (((HO_.out.keep kN).touch kX (fun kk e h => by have := HOn.out kk e; have : kk = rb := h; omega)).touch o5 (fun kk e h => by have := HOn.out kk e; have : kk = vb := h; omega))
        have HS5 := Lib.hid (((HR.out.st.keep kN).touch kX (fun h => hne.1 (Eq.symm h)) (fun h => hne.2.1 (Eq.symm h)) (fun h => hne.2.2.1 (Eq.symm h)) (fun b off e h => hne.2.2.2 b off e h)).touch o5 (fun h => hDv.1 (Eq.symm h)) (fun h => hDv.2.1 (Eq.symm h)) (fun h => hDv.2.2.1 (Eq.symm h)) (fun b off e h => hDv.2.2.2 b off e h))
        have HT5 := Lib.hid (show Touch (fun k => k = bw ∨ k = vb) w w5 from Touch.trans (Touch.trans (HTw.out.mono (fun _ h _ => .inl h)) Tq (fun x e hx => absurd hx (by have : x = rb := e; omega))) o5 (fun _ e _ => .inr e))
        have HNb := Lib.hid (show ∀ a, a ∈ GG 0 → 1 ≤ a ∧ a < 401 ∧ (objP (atT n s.f m C a)).2 = 0 from fun a ha => by
          have h1 := HHX.out.in1 ⟨0, by omega, ha⟩
          have h2 := HHX.out.obj (show 0 < 3 by omega) ha
          have h3 := HHX.out.bd 0 (by omega)
          have h4 : (nxL y s 0).e = s.od.e := rfl
          have h5 := HOd.out
          exact ⟨h1.1, by omega, h1.2.2.1⟩)
        obtain ⟨q, hq⟩ : ∃ q, (GG 0).length = q := ⟨_, rfl⟩
        have hq4 : q ≤ 4096 := by rw [← hq]; exact HHX.out.len (by omega)
        have HTile := Lib.hid (show WalkR (atT n s.f m C) s.od.t (y 0).f (GG 0) 0 from by
          have := (HHX.out.tile 0 (by omega)).walk
          have h5 := HOd.out.1
          rw [← h5]; exact this)
        have HWk := Lib.hid (show ∀ w', Keeps w5 w' → Calls Try.prog 29 #[.agg #[.pointer (some ⟨ba, 0, none⟩), .pointer (some ⟨bt, 0, none⟩)], .int .i64 s.od.f, .int .i64 s.od.t] w' fun e w2 => ∃ la lc, e = .returned (.tuple #[.slice la q lc, .int .i64 0]) ∧ OwnInts w2 w'.heap.size (.slice la q lc) (GG 0) ∧ Keeps w' w2 from fun w' k => by
          have h3 := HHX.out.bd 0 (by omega)
          have h4 : (nxL y s 0).e = s.od.e ∧ (nxL y s 0).t = s.od.t ∧ (nxL y s 0).f = s.od.f := ⟨rfl, rfl, rfl⟩
          refine (walk_any ba bw n s.f bt A m cap C w' (HS5.out.keep k) s.od.f s.od.t ⟨by omega, by omega⟩).mono ?_
          rintro e w2 ⟨v, L, x, he, hw, ho, hk2⟩
          obtain ⟨rfl, rfl⟩ := hw.det (HHX.out.tile 0 (by omega)).walk
          obtain ⟨la, lc, hv⟩ := ho.form
          subst hv
          rw [hq] at ho he
          exact ⟨la, lc, he, ho, hk2⟩)
        have e1 := BR5.c 1 _ rfl
        have e2 := BR5.c 2 _ rfl
        have e3 := bN5.c 0 _ rfl
        have e4 := bN5.c 1 _ rfl
        have HBR5 := Lib.hid BR5
        have HbN5 := Lib.hid bN5
        have HBZ5 := Lib.hid BZ5
        have lb5 := BR5.lt
        have ln5 := bN5.lt
        clear hne bN BX kX BRq n0 n1 n2 n3 n4 n5 n6 n7 n8 n9 n10 n11 n12 BR5 bN5 BZ5 Tq kN o5
        go_wp2_with fail
        refine wp_region_noPanic ?_
        refine wp_region_held_drew (S := (fun w' => Keeps w5 w')) (by kernel_rfl) (Touch.refl _ w5).drew (fun hHeld => ?_)
        refine' wpAnyH_take (i := 0) ?hi0_5 ?hs0_5 ?hf0_5 ?hr0_5 ?hQ0_5 ?hy0_5 (by assumption) ?rest0_5
        case hi0_5 => simp only [List.getElem?_toArray, List.getElem?_cons_zero] <;> rfl
        case hs0_5 => kernel_rfl
        case hf0_5 => kernel_rfl
        case hr0_5 => kernel_rfl
        case hQ0_5 => exact fun _ _ _ h => h
        case hy0_5 => exact Or.inl ⟨by rfl, fun w hSw => by go_simp <;> (try with_reducible rfl)⟩
        simp only [Act.put, List.setIfInBounds_toArray, List.set_cons_zero, List.set_cons_succ]
        refine' wpAnyH_take (i := 1) ?hi1_5 ?hs1_5 ?hf1_5 ?hr1_5 ?hQ1_5 ?hy1_5 (by assumption) ?rest1_5
        case hi1_5 => simp only [List.getElem?_toArray, List.getElem?_cons_succ, List.getElem?_cons_zero] <;> rfl
        case hs1_5 => kernel_rfl
        case hf1_5 => kernel_rfl
        case hr1_5 => kernel_rfl
        case hQ1_5 => exact fun _ _ _ h => h
        case hy1_5 => exact Or.inl ⟨by rfl, fun w hSw => by go_simp <;> (try with_reducible rfl)⟩
        simp only [Act.put, List.setIfInBounds_toArray, List.set_cons_zero, List.set_cons_succ]
        refine' wpAnyH_take (i := 2) ?hi2_5 ?hs2_5 ?hf2_5 ?hr2_5 ?hQ2_5 ?hy2_5 (by assumption) ?rest2_5
        case hi2_5 => simp only [List.getElem?_toArray, List.getElem?_cons_succ, List.getElem?_cons_zero] <;> rfl
        case hs2_5 => kernel_rfl
        case hf2_5 => kernel_rfl
        case hr2_5 => kernel_rfl
        case hQ2_5 => exact fun _ _ _ h => h
        case hy2_5 => exact Or.inl ⟨by rfl, fun w hSw => by go_simp <;> (try with_reducible rfl)⟩
        simp only [Act.put, List.setIfInBounds_toArray, List.set_cons_zero, List.set_cons_succ]
        refine' wpAnyH_take (i := 3) ?hi3_5 ?hs3_5 ?hf3_5 ?hr3_5 ?hQ3_5 ?hy3_5 (by assumption) ?rest3_5
        case hi3_5 => simp only [List.getElem?_toArray, List.getElem?_cons_succ, List.getElem?_cons_zero] <;> rfl
        case hs3_5 => kernel_rfl
        case hf3_5 => kernel_rfl
        case hr3_5 => kernel_rfl
        case hQ3_5 => exact fun _ _ _ h => h
        case hy3_5 => exact Or.inl ⟨by rfl, fun w hSw => by have q1 := cell_keep e1 hSw; have q2 := cell_keep e2 hSw; have q3 := cell_keep e3 hSw; have q4 := cell_keep e4 hSw; go_simp <;> (try with_reducible rfl)⟩
        simp only [Act.put, List.setIfInBounds_toArray, List.set_cons_zero, List.set_cons_succ]
        refine' wpAnyH_take (i := 4) ?hi4_5 ?hs4_5 ?hf4_5 ?hr4_5 ?hQ4_5 ?hy4_5 (by assumption) ?rest4_5
        case hi4_5 => simp only [List.getElem?_toArray, List.getElem?_cons_succ, List.getElem?_cons_zero] <;> rfl
        case hs4_5 => kernel_rfl
        case hf4_5 => kernel_rfl
        case hr4_5 => kernel_rfl
        case hQ4_5 => exact fun _ _ _ h => h
        case hy4_5 => exact Or.inl ⟨by rfl, fun w hSw => by go_simp <;> (try with_reducible rfl)⟩
        simp only [Act.put, List.setIfInBounds_toArray, List.set_cons_zero, List.set_cons_succ]
        refine' wpAnyH_take (i := 5) ?hi5_5 ?hs5_5 ?hf5_5 ?hr5_5 ?hQ5_5 ?hy5_5 (by assumption) ?rest5_5
        case hi5_5 => simp only [List.getElem?_toArray, List.getElem?_cons_succ, List.getElem?_cons_zero] <;> rfl
        case hs5_5 => kernel_rfl
        case hf5_5 => kernel_rfl
        case hr5_5 => kernel_rfl
        case hQ5_5 => exact fun _ _ _ h => h
        case hy5_5 => exact Or.inl ⟨by rfl, fun w hSw => by go_simp <;> (try with_reducible rfl)⟩
        simp only [Act.put, List.setIfInBounds_toArray, List.set_cons_zero, List.set_cons_succ]
        refine' wpAnyH_take (i := 6) ?hi6_5 ?hs6_5 ?hf6_5 ?hr6_5 ?hQ6_5 ?hy6_5 (by assumption) ?rest6_5
        case hi6_5 => simp only [List.getElem?_toArray, List.getElem?_cons_succ, List.getElem?_cons_zero] <;> rfl
        case hs6_5 => kernel_rfl
        case hf6_5 => kernel_rfl
        case hr6_5 => kernel_rfl
        case hQ6_5 => exact fun _ _ _ h => h
        case hy6_5 => exact Or.inl ⟨by rfl, fun w hSw => by have q1 := cell_keep e1 hSw; have q2 := cell_keep e2 hSw; have q3 := cell_keep e3 hSw; have q4 := cell_keep e4 hSw; go_simp <;> (try with_reducible rfl)⟩
        simp only [Act.put, List.setIfInBounds_toArray, List.set_cons_zero, List.set_cons_succ]
        refine' wpAnyH_take (i := 7) ?hi7_5 ?hs7_5 ?hf7_5 ?hr7_5 ?hQ7_5 ?hy7_5 (by assumption) ?rest7_5
        case hi7_5 => simp only [List.getElem?_toArray, List.getElem?_cons_succ, List.getElem?_cons_zero] <;> rfl
        case hs7_5 => kernel_rfl
        case hf7_5 => kernel_rfl
        case hr7_5 => kernel_rfl
        case hQ7_5 => exact fun _ _ _ h => h
        case hy7_5 => exact Or.inl ⟨by rfl, fun w hSw => by go_simp <;> (try with_reducible rfl)⟩
        simp only [Act.put, List.setIfInBounds_toArray, List.set_cons_zero, List.set_cons_succ]
        refine' wpAnyH_take (i := 8) ?hi8_5 ?hs8_5 ?hf8_5 ?hr8_5 ?hQ8_5 ?hy8_5 (by assumption) ?rest8_5
        case hi8_5 => simp only [List.getElem?_toArray, List.getElem?_cons_succ, List.getElem?_cons_zero] <;> rfl
        case hs8_5 => kernel_rfl
        case hf8_5 => kernel_rfl
        case hr8_5 => kernel_rfl
        case hQ8_5 => exact fun _ _ _ h => h
        case hy8_5 => exact Or.inl ⟨by rfl, fun w hSw => by go_simp <;> (try with_reducible rfl)⟩
        simp only [Act.put, List.setIfInBounds_toArray, List.set_cons_zero, List.set_cons_succ]
        refine' wpAnyH_take (i := 9) ?hi9_5 ?hs9_5 ?hf9_5 ?hr9_5 ?hQ9_5 ?hy9_5 (by assumption) ?rest9_5
        case hi9_5 => simp only [List.getElem?_toArray, List.getElem?_cons_succ, List.getElem?_cons_zero] <;> rfl
        case hs9_5 => kernel_rfl
        case hf9_5 => kernel_rfl
        case hr9_5 => kernel_rfl
        case hQ9_5 => exact fun _ _ _ h => h
        case hy9_5 => exact Or.inl ⟨by rfl, fun w hSw => by have q1 := cell_keep e1 hSw; have q2 := cell_keep e2 hSw; have q3 := cell_keep e3 hSw; have q4 := cell_keep e4 hSw; go_simp <;> (try with_reducible rfl)⟩
        simp only [Act.put, List.setIfInBounds_toArray, List.set_cons_zero, List.set_cons_succ]
        refine wpAnyH_ready (rs := [10]) (by kernel_rfl) (by simp) ?_
        refine AllReadyH.cons rfl (fun K hK => ?_) AllReadyH.nil
        go_simp
        with_reducible refine Calls.mono (HWk.out _ hHeld) ?_
        rintro e w6 ⟨la, lc, rfl, hlv, k6⟩
        have HLv := Lib.hid hlv
        clear hlv
        go_wp2_with fail
        refine hK.out _ _ (Keeps.trans hHeld k6) (fun hHeld => ?_)
        clear hK K
        refine' wpAnyH_take (i := 11) ?hi11_5 ?hs11_5 ?hf11_5 ?hr11_5 ?hQ11_5 ?hy11_5 (by assumption) ?rest11_5
        case hi11_5 => simp only [List.getElem?_toArray, List.getElem?_cons_succ, List.getElem?_cons_zero] <;> rfl
        case hs11_5 => kernel_rfl
        case hf11_5 => kernel_rfl
        case hr11_5 => kernel_rfl
        case hQ11_5 => exact fun _ _ _ h => h
        case hy11_5 => exact Or.inl ⟨by rfl, fun w hSw => by go_simp <;> (try with_reducible rfl)⟩
        simp only [Act.put, List.setIfInBounds_toArray, List.set_cons_zero, List.set_cons_succ]
        refine' wpAnyH_take (i := 12) ?hi12_5 ?hs12_5 ?hf12_5 ?hr12_5 ?hQ12_5 ?hy12_5 (by assumption) ?rest12_5
        case hi12_5 => simp only [List.getElem?_toArray, List.getElem?_cons_succ, List.getElem?_cons_zero] <;> rfl
        case hs12_5 => kernel_rfl
        case hf12_5 => kernel_rfl
        case hr12_5 => kernel_rfl
        case hQ12_5 => exact fun _ _ _ h => h
        case hy12_5 => exact Or.inl ⟨by rfl, fun w hSw => by go_simp <;> (try with_reducible rfl)⟩
        simp only [Act.put, List.setIfInBounds_toArray, List.set_cons_zero, List.set_cons_succ]
        refine' wpAnyH_take (i := 13) ?hi13_5 ?hs13_5 ?hf13_5 ?hr13_5 ?hQ13_5 ?hy13_5 (by assumption) ?rest13_5
        case hi13_5 => simp only [List.getElem?_toArray, List.getElem?_cons_succ, List.getElem?_cons_zero] <;> rfl
        case hs13_5 => kernel_rfl
        case hf13_5 => kernel_rfl
        case hr13_5 => kernel_rfl
        case hQ13_5 => exact fun _ _ _ h => h
        case hy13_5 => exact Or.inl ⟨by rfl, fun w hSw => by go_simp <;> (try with_reducible rfl)⟩
        simp only [Act.put, List.setIfInBounds_toArray, List.set_cons_zero, List.set_cons_succ]
        refine' wpAnyH_take (i := 14) ?hi14_5 ?hs14_5 ?hf14_5 ?hr14_5 ?hQ14_5 ?hy14_5 (by assumption) ?rest14_5
        case hi14_5 => simp only [List.getElem?_toArray, List.getElem?_cons_succ, List.getElem?_cons_zero] <;> rfl
        case hs14_5 => kernel_rfl
        case hf14_5 => kernel_rfl
        case hr14_5 => kernel_rfl
        case hQ14_5 => exact fun _ _ _ h => h
        case hy14_5 => exact Or.inl ⟨by rfl, fun w hSw => by go_simp <;> (try with_reducible rfl)⟩
        simp only [Act.put, List.setIfInBounds_toArray, List.set_cons_zero, List.set_cons_succ]
        refine' wpAnyH_take (i := 15) ?hi15_5 ?hs15_5 ?hf15_5 ?hr15_5 ?hQ15_5 ?hy15_5 (by assumption) ?rest15_5
        case hi15_5 => simp only [List.getElem?_toArray, List.getElem?_cons_succ, List.getElem?_cons_zero] <;> rfl
        case hs15_5 => kernel_rfl
        case hf15_5 => kernel_rfl
        case hr15_5 => kernel_rfl
        case hQ15_5 => exact fun _ _ _ h => h
        case hy15_5 => exact Or.inl ⟨by rfl, fun w hSw => by go_simp <;> (try with_reducible rfl)⟩
        simp only [Act.put, List.setIfInBounds_toArray, List.set_cons_zero, List.set_cons_succ]
        refine wpAnyH_done (by kernel_rfl) ?_ _
        refine NoPanic.normal ?_
        go_wp2_with fail
        have HD6 := Lib.hid (hD5.keep hHeld)
        have BR6 := HBR5.out.keep hHeld
        have hYg : YgC w6 rb (emp (y 1)) s.tt := ⟨BR6.c 6 _ rfl, BR6.c 7 _ rfl, BR6.c 8 _ rfl, BR6.c 9 _ rfl, BR6.c 10 _ rfl, BR6.c 11 _ rfl⟩
        have HYg := Lib.hid hYg
        have HC1 := Lib.hid (BR6.c 1 _ rfl)
        have HC2 := Lib.hid (BR6.c 2 _ rfl)
        have HS6 := Lib.hid (HS5.out.keep hHeld)
        have HbN6 := Lib.hid (HbN5.out.keep hHeld)
        have HBZ6 := Lib.hid (HBZ5.out.keep hHeld)
        have HO6 := Lib.hid (HO5.out.keep hHeld)
        have HT6 := Lib.hid (Touch.trans HT5.out hHeld (fun _ e _ => e.elim))
        have z6 := hHeld.size
        have hrd : Rd w6 la q (intF .i64 fun j => (GG 0).getD j 0) := by
          have h := HLv.out
          rw [← hq] at h ⊢
          exact h.rd.1
        have HRd := Lib.hid hrd
        have hlo6 := HLv.out.lt
        have HLo := Lib.hid (show ∀ b off, la = some ⟨b, off, none⟩ → w5.heap.size ≤ b from fun b off e => by
          have h := HLv.out
          rw [← hq] at h
          exact (h.rd.2 b off e).1)
        clear hHeld hD5 BR6 hYg hrd hlo6 e1 e2 e3 e4 k6 HLv
        go_loopw [150] (fun i wr => ∃ (k : Nat) (D' : Nat → Bool), k ≤ q ∧ i = .int .i64 k ∧ Cd wr tb mb vb D' ∧ (∀ c, D' c = true ↔ ∃ a, a ∈ (GG 0).take k ∧ LeadsTo n m C s.f (ygB (emp (y 1)) s.tt) a ∧ cardN a = c) ∧ Only vb w6 wr) (fun i _ => q - (intOf i).toNat)
        case atStart => exact ⟨0, fun _ => false, by omega, rfl, HD6.out, fun c => ⟨fun h => (by cases h), fun ⟨a, ha, _⟩ => by simp at ha⟩, Only.refl _ _⟩
        case round =>
          obtain ⟨wo, rfl⟩ : ∃ wo : World, wo = wr := ⟨_, rfl⟩
          obtain ⟨k, D', hk, rfl, hDo, hiff, o1⟩ := hrel
          have HIf := Lib.hid hiff
          have HDo := Lib.hid hDo
          have zo := o1.size
          clear hiff hDo
          by_cases hlt : k < q
          · obtain ⟨b2, off2, rfl, d3⟩ := (HRd.out.keepS o1 (fun b off e h => by have := HLo.out b off e; have : b = vb := h; omega)).one hlt
            have d4 : wo.cell? ⟨b2, off2 + k, none⟩ = some (.int .i64 ((GG 0).getD k 0)) := d3
            have hb := HNb.out _ (getD_mem (show k < (GG 0).length by omega))
            have HTk := Lib.hid (take_snoc (show k < (GG 0).length by omega))
            have HLd := Lib.hid (leads_any ba bw n s.f bt A m cap C wo (HS6.out.touch o1 (fun h => hDv.1 (Eq.symm h)) (fun h => hDv.2.1 (Eq.symm h)) (fun h => hDv.2.2.1 (Eq.symm h)) (fun b off e h => hDv.2.2.2 b off e h)) rb (cell_only HC1.out o1 (show rb ≠ vb by omega)) (cell_only HC2.out o1 (show rb ≠ vb by omega)) (emp (y 1)) s.tt
              ⟨cell_only HYg.out.c6 o1 (show rb ≠ vb by omega), cell_only HYg.out.c7 o1 (show rb ≠ vb by omega), cell_only HYg.out.c8 o1 (show rb ≠ vb by omega), cell_only HYg.out.c9 o1 (show rb ≠ vb by omega), cell_only HYg.out.c10 o1 (show rb ≠ vb by omega), cell_only HYg.out.c11 o1 (show rb ≠ vb by omega)⟩ ((GG 0).getD k 0) hb.2.2)
            obtain ⟨hb1, hb2, _⟩ := hb
            have hkI : (k : Int) < q := by omega
            have HTch := Lib.hid (fun w' (k' : Keeps wo w') => touch_yes (HDo.out.keep k') ((GG 0).getD k 0) hb1 hb2)
            clear d3 hb1 hb2
            generalize (GG 0).getD k 0 = x at *
            generalize hPP : LeadsTo n m C s.f (ygB (emp (y 1)) s.tt) x = PP at *
            have HPP := Lib.hid hPP
            clear hPP
            go_wp2_with fail
            refine Calls.mono HLd.out ?_
            rintro e w8 ⟨b8, rfl, hb8, k8⟩
            cases b8 with
            | true =>
              have HB8 := Lib.hid (hb8.1 rfl)
              clear hb8
              go_wp2_with fail
              refine Calls.mono (HTch.out _ k8) ?_
              rintro e w9 ⟨⟨b9, rfl⟩, hD9, o9⟩
              go_wp2_with fail
              go_roundw
              case rel => exact ⟨k + 1, setD D' (cardN x), by omega, by go_num, hD9, fun c => by
                rw [HTk.out]
                unfold setD
                by_cases e : c = cardN x
                · rw [if_pos e]
                  exact ⟨fun _ => ⟨x, List.mem_append_right _ (List.mem_singleton.2 rfl), by rw [HPP.out]; exact HB8.out, e.symm⟩, fun _ => rfl⟩
                · rw [if_neg e, HIf.out c]
                  refine ⟨fun ⟨a, h1, h2⟩ => ⟨a, List.mem_append_left _ h1, h2⟩, fun ⟨a, h1, h2, h3⟩ => ?_⟩
                  rcases List.mem_append.1 h1 with h1 | h1
                  · exact ⟨a, h1, h2, h3⟩
                  · rw [List.mem_singleton.1 h1] at h3; exact absurd h3.symm e, Touch.trans (Touch.keep o1 k8) o9 (fun _ e _ => e)⟩
              case measure => simp [intOf]; omega
            | false =>
              have HB8 := Lib.hid (show ¬ PP from fun h => by have := hb8.2 h; cases this)
              clear hb8
              go_wp2_with fail
              go_roundw
              case rel => exact ⟨k + 1, D', by omega, by go_num, HDo.out.keep k8, fun c => by
                rw [HTk.out, HIf.out c]
                refine ⟨fun ⟨a, h1, h2⟩ => ⟨a, List.mem_append_left _ h1, h2⟩, fun ⟨a, h1, h2, h3⟩ => ?_⟩
                rcases List.mem_append.1 h1 with h1 | h1
                · exact ⟨a, h1, h2, h3⟩
                · rw [List.mem_singleton.1 h1, HPP.out] at h2; exact absurd h2 HB8.out, Touch.keep o1 k8⟩
              case measure => simp [intOf]; omega
          · obtain rfl : k = q := by omega
            have hbNo := HbN6.out.touch o1 (show ¬ (nb = vb) by omega)
            have n0 := hbNo.c 0 _ rfl
            have n1 := hbNo.c 1 _ rfl
            have n2 := hbNo.c 2 _ rfl
            have n3 := hbNo.c 3 _ rfl
            have n4 := hbNo.c 4 _ rfl
            have n5 := hbNo.c 5 _ rfl
            have n6 := hbNo.c 6 _ rfl
            have n7 := hbNo.c 7 _ rfl
            have n8 := hbNo.c 8 _ rfl
            have n9 := hbNo.c 9 _ rfl
            have n10 := hbNo.c 10 _ rfl
            have n11 := hbNo.c 11 _ rfl
            have n12 := hbNo.c 12 _ rfl
            have hBZo := HBZ6.out.touch o1 (show ¬ (w.heap.size + 1 = vb) by omega)
            clear hbNo
            have hnz : nb ≠ w.heap.size + 1 := by omega
            go_wp2_with fail
            refine wp_region_noPanic ?_
            refine wp_region_held_drew (S := (fun w' => Only (w.heap.size + 1) wo w')) (by kernel_rfl) (Only.refl _ wo).drew (fun hHeld => ?_)
            refine' wpAnyH_take (i := 0) ?hi0_6 ?hs0_6 ?hf0_6 ?hr0_6 ?hQ0_6 ?hy0_6 (by assumption) ?rest0_6
            case hi0_6 => simp only [List.getElem?_toArray, List.getElem?_cons_zero] <;> rfl
            case hs0_6 => kernel_rfl
            case hf0_6 => kernel_rfl
            case hr0_6 => kernel_rfl
            case hQ0_6 => exact fun _ _ _ h => h
            case hy0_6 => exact Or.inl ⟨by rfl, fun w hSw => by go_simp <;> (try with_reducible rfl)⟩
            simp only [Act.put, List.setIfInBounds_toArray, List.set_cons_zero, List.set_cons_succ]
            refine' wpAnyH_take (i := 1) ?hi1_6 ?hs1_6 ?hf1_6 ?hr1_6 ?hQ1_6 ?hy1_6 (by assumption) ?rest1_6
            case hi1_6 => simp only [List.getElem?_toArray, List.getElem?_cons_succ, List.getElem?_cons_zero] <;> rfl
            case hs1_6 => kernel_rfl
            case hf1_6 => kernel_rfl
            case hr1_6 => kernel_rfl
            case hQ1_6 => exact fun _ _ _ h => h
            case hy1_6 => exact Or.inl ⟨by rfl, fun w hSw => by have q0 := cell_only n0 hSw hnz; have q1 := cell_only n1 hSw hnz; have q2 := cell_only n2 hSw hnz; have q3 := cell_only n3 hSw hnz; have q4 := cell_only n4 hSw hnz; have q5 := cell_only n5 hSw hnz; have q6 := cell_only n6 hSw hnz; have q7 := cell_only n7 hSw hnz; have q8 := cell_only n8 hSw hnz; have q9 := cell_only n9 hSw hnz; have q10 := cell_only n10 hSw hnz; have q11 := cell_only n11 hSw hnz; have q12 := cell_only n12 hSw hnz; go_simp <;> (try with_reducible rfl)⟩
            simp only [Act.put, List.setIfInBounds_toArray, List.set_cons_zero, List.set_cons_succ]
            refine' wpAnyH_take (i := 2) ?hi2_6 ?hs2_6 ?hf2_6 ?hr2_6 ?hQ2_6 ?hy2_6 (by assumption) ?rest2_6
            case hi2_6 => simp only [List.getElem?_toArray, List.getElem?_cons_succ, List.getElem?_cons_zero] <;> rfl
            case hs2_6 => kernel_rfl
            case hf2_6 => kernel_rfl
            case hr2_6 => kernel_rfl
            case hQ2_6 => exact fun _ _ _ h => h
            case hy2_6 => exact Or.inl ⟨by rfl, fun w hSw => by go_simp <;> (try with_reducible rfl)⟩
            simp only [Act.put, List.setIfInBounds_toArray, List.set_cons_zero, List.set_cons_succ]
            refine wpAnyH_ready (rs := [3]) (by kernel_rfl) (by simp) ?_
            refine AllReadyH.cons rfl (fun K hK => ?_) AllReadyH.nil
            rw [if_pos (show Region.wanted _ _ = true from rfl)]
            refine A5.wp_store_bl 38 (.tmp 11) (.tmp 162) rfl (BL.drew hBZo) rfl [.int .i64 s.od.f, .int .i64 s.od.t, .int .i64 s.od.e, .int .i64 (y 1).f, .int .i64 (y 1).f, .int .i64 (y 1).e, .int .i64 s.tt.f, .int .i64 s.tt.t, .int .i64 s.tt.e, .int .i64 (y 2).f, .int .i64 (y 2).f, .int .i64 (y 2).e, .int .i64 thr] rfl sz_young rfl rfl ?_
            intro X BX kX
            refine hK.out _ _ (Touch.trans (Touch.drew (Only.refl _ wo)) kX (fun _ e _ => e)) (fun hHeld => ?_)
            clear hK K
            simp only [Act.put, List.setIfInBounds_toArray, List.set_cons_zero, List.set_cons_succ]
            refine' wpAnyH_take (i := 4) ?hi4_6 ?hs4_6 ?hf4_6 ?hr4_6 ?hQ4_6 ?hy4_6 (by assumption) ?rest4_6
            case hi4_6 => simp only [List.getElem?_toArray, List.getElem?_cons_succ, List.getElem?_cons_zero] <;> rfl
            case hs4_6 => kernel_rfl
            case hf4_6 => kernel_rfl
            case hr4_6 => kernel_rfl
            case hQ4_6 => exact fun _ _ _ h => h
            case hy4_6 => exact Or.inl ⟨by rfl, fun w hSw => by go_simp <;> (try with_reducible rfl)⟩
            simp only [Act.put, List.setIfInBounds_toArray, List.set_cons_zero, List.set_cons_succ]
            refine wpAnyH_done (by kernel_rfl) ?_ _
            refine NoPanic.normal ?_
            go_wp2_with fail
            have kX2 : Only (w.heap.size + 1) wo X := hHeld
            have z9 := kX2.size
            simp only [Exit.jump]
            have s0 := BX.c 0 (.int .i64 s.od.f) rfl
            have s1 := BX.c 1 (.int .i64 s.od.t) rfl
            have s2 := BX.c 2 (.int .i64 s.od.e) rfl
            have s3 := BX.c 3 (.int .i64 (y 1).f) rfl
            have s4 := BX.c 4 (.int .i64 (y 1).f) rfl
            have s5 := BX.c 5 (.int .i64 (y 1).e) rfl
            have s6 := BX.c 6 (.int .i64 s.tt.f) rfl
            have s7 := BX.c 7 (.int .i64 s.tt.t) rfl
            have s8 := BX.c 8 (.int .i64 s.tt.e) rfl
            have s9 := BX.c 9 (.int .i64 (y 2).f) rfl
            have s10 := BX.c 10 (.int .i64 (y 2).f) rfl
            have s11 := BX.c 11 (.int .i64 (y 2).e) rfl
            have s12 := BX.c 12 (.int .i64 thr) rfl
            have HF := Lib.hid (show RunOut n m C f y G thr rl ba bw bt A cap tb mb vb w (.returned (.tuple #[ov, .agg #[.int .i64 s.od.f, .int .i64 s.od.t, .int .i64 s.od.e, .int .i64 (y 1).f, .int .i64 (y 1).f, .int .i64 (y 1).e, .int .i64 s.tt.f, .int .i64 s.tt.t, .int .i64 s.tt.e, .int .i64 (y 2).f, .int .i64 (y 2).f, .int .i64 (y 2).e, .int .i64 thr], .int .i64 0])) X from
              .inr ⟨by omega, s, outl, ov, D', HRun.out, rfl, ((HS6.out.touch o1 (fun h => hDv.1 (Eq.symm h)) (fun h => hDv.2.1 (Eq.symm h)) (fun h => hDv.2.2.1 (Eq.symm h)) (fun b off e h => hDv.2.2.2 b off e h))).touch kX2 (fun h => by have : ba = w.heap.size + 1 := h; omega) (fun h => by have : bw = w.heap.size + 1 := h; omega) (fun h => by have : bt = w.heap.size + 1 := h; omega) (fun b off e h => by have := hN0.2.2.2 b off e; have : b = w.heap.size + 1 := h; omega),
                (HO6.out.touch o1 (fun kk e h => by have := HOn.out kk e; have : kk = vb := h; omega)).touch kX2 (fun kk e h => by have := HOn.out kk e; have : kk = w.heap.size + 1 := h; omega),
                HDo.out.touch kX2 (fun h => by have : tb = w.heap.size + 1 := h; omega) (fun h => by have : mb = w.heap.size + 1 := h; omega) (fun h => by have : vb = w.heap.size + 1 := h; omega),
                fun L hL c => by
                  obtain ⟨rfl, _⟩ := hL.det HTile.out
                  rw [HIf.out c, ← hq, List.take_length],
                Touch.trans (Touch.trans HT6.out o1 (fun _ e _ => .inr e)) kX2 (fun x e hx => absurd hx (by have : x = w.heap.size + 1 := e; omega))⟩)
            refine bodyPost_ret (v := .tuple #[ov, .agg #[.int .i64 s.od.f, .int .i64 s.od.t, .int .i64 s.od.e, .int .i64 (y 1).f, .int .i64 (y 1).f, .int .i64 (y 1).e, .int .i64 s.tt.f, .int .i64 s.tt.t, .int .i64 s.tt.e, .int .i64 (y 2).f, .int .i64 (y 2).f, .int .i64 (y 2).e, .int .i64 thr], .int .i64 0]) ?_ rfl HF.out
            simp [results, Try.results7, go_sem, s0, s1, s2, s3, s4, s5, s6, s7, s8, s9, s10, s11, s12]
  intro HH
  have HH2 := Lib.hid HH
  clear HH
  have HH := HH2
  clear HH2
  go_upto_region 1 with fail
  refine named_code (fun W1 hW1 => ?_)
  have K1 : Keeps w W1 := by rw [hW1]; exact ((Touch.refl _ w).alloc _).alloc _
  have BY1 : BL W1 w.heap.size 38 [.int .i64 (y 0).f, .int .i64 (y 0).t, .int .i64 (y 0).e, .int .i64 (y 1).f, .int .i64 (y 1).t, .int .i64 (y 1).e, .int .i64 (y 2).f, .int .i64 (y 2).t, .int .i64 (y 2).e, .int .i64 (y 3).f, .int .i64 (y 3).t, .int .i64 (y 3).e, .int .i64 thr] := by rw [hW1]; exact (BL.new1 w 38 _ [.int .i64 (y 0).f, .int .i64 (y 0).t, .int .i64 (y 0).e, .int .i64 (y 1).f, .int .i64 (y 1).t, .int .i64 (y 1).e, .int .i64 (y 2).f, .int .i64 (y 2).t, .int .i64 (y 2).e, .int .i64 (y 3).f, .int .i64 (y 3).t, .int .i64 (y 3).e, .int .i64 thr] _ rfl rfl).alloc _
  have BZ1 : BL W1 (w.heap.size + 1) 38 [.int .i64 0, .int .i64 0, .int .i64 0, .int .i64 0, .int .i64 0, .int .i64 0, .int .i64 0, .int .i64 0, .int .i64 0, .int .i64 0, .int .i64 0, .int .i64 0, .int .i64 0] := by rw [hW1]; exact BL.new1 _ 38 _ [.int .i64 0, .int .i64 0, .int .i64 0, .int .i64 0, .int .i64 0, .int .i64 0, .int .i64 0, .int .i64 0, .int .i64 0, .int .i64 0, .int .i64 0, .int .i64 0, .int .i64 0] _ (by simp) rfl
  clear hW1
  have HLe1 := Lib.hid (show ∀ w', Keeps W1 w' → Calls Try.prog 22 #[.pointer (some ⟨ba, 0, none⟩)] w' fun e w2 => e = .returned (.int .i64 n) ∧ w' = w2 from fun w' k => HLe.out w' (Keeps.trans K1 k))
  clear HLe
  have HLe := HLe1
  clear HLe1
  have HCY := Lib.hid (show ∀ w', Keeps W1 w' → w'.cell? ⟨w.heap.size, 0, none⟩ = some (.int .i64 (y 0).f) ∧ w'.cell? ⟨w.heap.size, 1, none⟩ = some (.int .i64 (y 0).t) ∧ w'.cell? ⟨w.heap.size, 2, none⟩ = some (.int .i64 (y 0).e) ∧ w'.cell? ⟨w.heap.size, 3, none⟩ = some (.int .i64 (y 1).f) ∧ w'.cell? ⟨w.heap.size, 4, none⟩ = some (.int .i64 (y 1).t) ∧ w'.cell? ⟨w.heap.size, 5, none⟩ = some (.int .i64 (y 1).e) ∧ w'.cell? ⟨w.heap.size, 6, none⟩ = some (.int .i64 (y 2).f) ∧ w'.cell? ⟨w.heap.size, 7, none⟩ = some (.int .i64 (y 2).t) ∧ w'.cell? ⟨w.heap.size, 8, none⟩ = some (.int .i64 (y 2).e) ∧ w'.cell? ⟨w.heap.size, 9, none⟩ = some (.int .i64 (y 3).f) ∧ w'.cell? ⟨w.heap.size, 10, none⟩ = some (.int .i64 (y 3).t) ∧ w'.cell? ⟨w.heap.size, 11, none⟩ = some (.int .i64 (y 3).e) ∧ w'.cell? ⟨w.heap.size, 12, none⟩ = some (.int .i64 thr) from fun w' k => ⟨(BY1.keep k).c 0 _ rfl, (BY1.keep k).c 1 _ rfl, (BY1.keep k).c 2 _ rfl, (BY1.keep k).c 3 _ rfl, (BY1.keep k).c 4 _ rfl, (BY1.keep k).c 5 _ rfl, (BY1.keep k).c 6 _ rfl, (BY1.keep k).c 7 _ rfl, (BY1.keep k).c 8 _ rfl, (BY1.keep k).c 9 _ rfl, (BY1.keep k).c 10 _ rfl, (BY1.keep k).c 11 _ rfl, (BY1.keep k).c 12 _ rfl⟩)
  refine wp_region_noPanic ?_
  refine wp_region_held_drew (S := (fun w' => Keeps W1 w')) (by kernel_rfl) (Touch.refl _ W1).drew (fun hHeld => ?_)
  refine' wpAnyH_take (i := 0) ?hi0_7 ?hs0_7 ?hf0_7 ?hr0_7 ?hQ0_7 ?hy0_7 (by assumption) ?rest0_7
  case hi0_7 => simp only [List.getElem?_toArray, List.getElem?_cons_zero] <;> rfl
  case hs0_7 => kernel_rfl
  case hf0_7 => kernel_rfl
  case hr0_7 => kernel_rfl
  case hQ0_7 => exact fun _ _ _ h => h
  case hy0_7 => exact Or.inl ⟨by rfl, fun w hSw => by obtain ⟨q0, q1, q2, q3, q4, q5, q6, q7, q8, q9, q10, q11, q12⟩ := HCY.out _ hSw; go_simp <;> (try with_reducible rfl)⟩
  simp only [Act.put, List.setIfInBounds_toArray, List.set_cons_zero, List.set_cons_succ]
  refine' wpAnyH_take (i := 1) ?hi1_7 ?hs1_7 ?hf1_7 ?hr1_7 ?hQ1_7 ?hy1_7 (by assumption) ?rest1_7
  case hi1_7 => simp only [List.getElem?_toArray, List.getElem?_cons_succ, List.getElem?_cons_zero] <;> rfl
  case hs1_7 => kernel_rfl
  case hf1_7 => kernel_rfl
  case hr1_7 => kernel_rfl
  case hQ1_7 => exact fun _ _ _ h => h
  case hy1_7 => exact Or.inl ⟨by rfl, fun w hSw => by go_simp <;> (try with_reducible rfl)⟩
  simp only [Act.put, List.setIfInBounds_toArray, List.set_cons_zero, List.set_cons_succ]
  refine wpAnyH_ready (rs := [2]) (by kernel_rfl) (by simp) ?_
  refine AllReadyH.cons rfl (fun K hK => ?_) AllReadyH.nil
  go_simp
  with_reducible refine Calls.mono (HLe.out _ hHeld) ?_
  rintro e w2 ⟨rfl, rfl⟩
  go_wp2_with fail
  refine hK.out _ _ hHeld (fun hHeld => ?_)
  clear hK K
  refine wpAnyH_ready (rs := [3]) (by kernel_rfl) (by simp) ?_
  refine AllReadyH.cons rfl (fun K hK => ?_) AllReadyH.nil
  go_simp
  with_reducible refine Calls.mono (HRi.out _) ?_
  rintro e w2 ⟨rfl, k2⟩
  go_wp2_with fail
  refine hK.out _ _ (Keeps.trans hHeld k2) (fun hHeld => ?_)
  clear hK K
  refine' wpAnyH_take (i := 4) ?hi4_7 ?hs4_7 ?hf4_7 ?hr4_7 ?hQ4_7 ?hy4_7 (by assumption) ?rest4_7
  case hi4_7 => simp only [List.getElem?_toArray, List.getElem?_cons_succ, List.getElem?_cons_zero] <;> rfl
  case hs4_7 => kernel_rfl
  case hf4_7 => kernel_rfl
  case hr4_7 => kernel_rfl
  case hQ4_7 => exact fun _ _ _ h => h
  case hy4_7 => exact Or.inl ⟨by rfl, fun w hSw => by go_simp <;> (try with_reducible rfl)⟩
  simp only [Act.put, List.setIfInBounds_toArray, List.set_cons_zero, List.set_cons_succ]
  refine wpAnyH_done (by kernel_rfl) ?_ _
  refine NoPanic.normal ?_
  go_wp2_with fail
  refine named_code (fun W2 hW2 => ?_)
  have K12 : Keeps W1 W2 := by rw [hW2]; exact hHeld
  have K2 := Keeps.trans K1 K12
  have BY2 := BY1.keep K12
  have BZ2 := BZ1.keep K12
  have z2 := K2.size
  have HCY2 := Lib.hid (show ∀ w', Keeps W2 w' → w'.cell? ⟨w.heap.size, 0, none⟩ = some (.int .i64 (y 0).f) ∧ w'.cell? ⟨w.heap.size, 1, none⟩ = some (.int .i64 (y 0).t) ∧ w'.cell? ⟨w.heap.size, 2, none⟩ = some (.int .i64 (y 0).e) ∧ w'.cell? ⟨w.heap.size, 3, none⟩ = some (.int .i64 (y 1).f) ∧ w'.cell? ⟨w.heap.size, 4, none⟩ = some (.int .i64 (y 1).t) ∧ w'.cell? ⟨w.heap.size, 5, none⟩ = some (.int .i64 (y 1).e) ∧ w'.cell? ⟨w.heap.size, 6, none⟩ = some (.int .i64 (y 2).f) ∧ w'.cell? ⟨w.heap.size, 7, none⟩ = some (.int .i64 (y 2).t) ∧ w'.cell? ⟨w.heap.size, 8, none⟩ = some (.int .i64 (y 2).e) ∧ w'.cell? ⟨w.heap.size, 9, none⟩ = some (.int .i64 (y 3).f) ∧ w'.cell? ⟨w.heap.size, 10, none⟩ = some (.int .i64 (y 3).t) ∧ w'.cell? ⟨w.heap.size, 11, none⟩ = some (.int .i64 (y 3).e) ∧ w'.cell? ⟨w.heap.size, 12, none⟩ = some (.int .i64 thr) from fun w' k => HCY.out w' (Keeps.trans K12 k))
  clear hW2 HCY hHeld BY1 BZ1 K1 HLe HRi
  refine wp_region_noPanic ?_
  refine wp_region_held_drew (S := (fun w' => Keeps W2 w')) (by kernel_rfl) (Touch.refl _ W2).drew (fun hHeld => ?_)
  refine' wpAnyH_take (i := 0) ?hi0_8 ?hs0_8 ?hf0_8 ?hr0_8 ?hQ0_8 ?hy0_8 (by assumption) ?rest0_8
  case hi0_8 => simp only [List.getElem?_toArray, List.getElem?_cons_zero] <;> rfl
  case hs0_8 => kernel_rfl
  case hf0_8 => kernel_rfl
  case hr0_8 => kernel_rfl
  case hQ0_8 => exact fun _ _ _ h => h
  case hy0_8 => exact Or.inl ⟨by rfl, fun w hSw => by go_simp <;> (try with_reducible rfl)⟩
  simp only [Act.put, List.setIfInBounds_toArray, List.set_cons_zero, List.set_cons_succ]
  refine' wpAnyH_take (i := 1) ?hi1_8 ?hs1_8 ?hf1_8 ?hr1_8 ?hQ1_8 ?hy1_8 (by assumption) ?rest1_8
  case hi1_8 => simp only [List.getElem?_toArray, List.getElem?_cons_succ, List.getElem?_cons_zero] <;> rfl
  case hs1_8 => kernel_rfl
  case hf1_8 => kernel_rfl
  case hr1_8 => kernel_rfl
  case hQ1_8 => exact fun _ _ _ h => h
  case hy1_8 => exact Or.inl ⟨by rfl, fun w hSw => by go_simp <;> (try with_reducible rfl)⟩
  simp only [Act.put, List.setIfInBounds_toArray, List.set_cons_zero, List.set_cons_succ]
  refine' wpAnyH_take (i := 2) ?hi2_8 ?hs2_8 ?hf2_8 ?hr2_8 ?hQ2_8 ?hy2_8 (by assumption) ?rest2_8
  case hi2_8 => simp only [List.getElem?_toArray, List.getElem?_cons_succ, List.getElem?_cons_zero] <;> rfl
  case hs2_8 => kernel_rfl
  case hf2_8 => kernel_rfl
  case hr2_8 => kernel_rfl
  case hQ2_8 => exact fun _ _ _ h => h
  case hy2_8 => exact Or.inl ⟨by rfl, fun w hSw => by go_simp <;> (try with_reducible rfl)⟩
  simp only [Act.put, List.setIfInBounds_toArray, List.set_cons_zero, List.set_cons_succ]
  refine' wpAnyH_take (i := 4) ?hi4_8 ?hs4_8 ?hf4_8 ?hr4_8 ?hQ4_8 ?hy4_8 (by assumption) ?rest4_8
  case hi4_8 => simp only [List.getElem?_toArray, List.getElem?_cons_succ, List.getElem?_cons_zero] <;> rfl
  case hs4_8 => kernel_rfl
  case hf4_8 => kernel_rfl
  case hr4_8 => kernel_rfl
  case hQ4_8 => exact fun _ _ _ h => h
  case hy4_8 => exact Or.inl ⟨by rfl, fun w hSw => by obtain ⟨q0, q1, q2, q3, q4, q5, q6, q7, q8, q9, q10, q11, q12⟩ := HCY2.out _ hSw; go_simp <;> (try with_reducible rfl)⟩
  simp only [Act.put, List.setIfInBounds_toArray, List.set_cons_zero, List.set_cons_succ]
  refine' wpAnyH_take (i := 5) ?hi5_8 ?hs5_8 ?hf5_8 ?hr5_8 ?hQ5_8 ?hy5_8 (by assumption) ?rest5_8
  case hi5_8 => simp only [List.getElem?_toArray, List.getElem?_cons_succ, List.getElem?_cons_zero] <;> rfl
  case hs5_8 => kernel_rfl
  case hf5_8 => kernel_rfl
  case hr5_8 => kernel_rfl
  case hQ5_8 => exact fun _ _ _ h => h
  case hy5_8 => exact Or.inl ⟨by rfl, fun w hSw => by go_simp <;> (try with_reducible rfl)⟩
  simp only [Act.put, List.setIfInBounds_toArray, List.set_cons_zero, List.set_cons_succ]
  refine' wpAnyH_take (i := 6) ?hi6_8 ?hs6_8 ?hf6_8 ?hr6_8 ?hQ6_8 ?hy6_8 (by assumption) ?rest6_8
  case hi6_8 => simp only [List.getElem?_toArray, List.getElem?_cons_succ, List.getElem?_cons_zero] <;> rfl
  case hs6_8 => kernel_rfl
  case hf6_8 => kernel_rfl
  case hr6_8 => kernel_rfl
  case hQ6_8 => exact fun _ _ _ h => h
  case hy6_8 => exact Or.inl ⟨by rfl, fun w hSw => by obtain ⟨q0, q1, q2, q3, q4, q5, q6, q7, q8, q9, q10, q11, q12⟩ := HCY2.out _ hSw; go_simp <;> (try with_reducible rfl)⟩
  simp only [Act.put, List.setIfInBounds_toArray, List.set_cons_zero, List.set_cons_succ]
  refine' wpAnyH_take (i := 7) ?hi7_8 ?hs7_8 ?hf7_8 ?hr7_8 ?hQ7_8 ?hy7_8 (by assumption) ?rest7_8
  case hi7_8 => simp only [List.getElem?_toArray, List.getElem?_cons_succ, List.getElem?_cons_zero] <;> rfl
  case hs7_8 => kernel_rfl
  case hf7_8 => kernel_rfl
  case hr7_8 => kernel_rfl
  case hQ7_8 => exact fun _ _ _ h => h
  case hy7_8 => exact Or.inl ⟨by rfl, fun w hSw => by go_simp <;> (try with_reducible rfl)⟩
  simp only [Act.put, List.setIfInBounds_toArray, List.set_cons_zero, List.set_cons_succ]
  refine' wpAnyH_take (i := 8) ?hi8_8 ?hs8_8 ?hf8_8 ?hr8_8 ?hQ8_8 ?hy8_8 (by assumption) ?rest8_8
  case hi8_8 => simp only [List.getElem?_toArray, List.getElem?_cons_succ, List.getElem?_cons_zero] <;> rfl
  case hs8_8 => kernel_rfl
  case hf8_8 => kernel_rfl
  case hr8_8 => kernel_rfl
  case hQ8_8 => exact fun _ _ _ h => h
  case hy8_8 => exact Or.inl ⟨by rfl, fun w hSw => by obtain ⟨q0, q1, q2, q3, q4, q5, q6, q7, q8, q9, q10, q11, q12⟩ := HCY2.out _ hSw; go_simp <;> (try with_reducible rfl)⟩
  simp only [Act.put, List.setIfInBounds_toArray, List.set_cons_zero, List.set_cons_succ]
  refine wpAnyH_ready (rs := [3]) (by kernel_rfl) (by simp) ?_
  refine AllReadyH.cons rfl (fun K hK => ?_) AllReadyH.nil
  go_simp
  with_reducible refine Calls.mono (HOn.out _) ?_
  rintro e w3 ⟨rfl, k3⟩
  have hq3 := (Keeps.trans hHeld k3).size
  go_wp2_with fail
  refine hK.out _ _ (Keeps.trans hHeld k3) (fun hHeld => ?_)
  clear hK K
  refine' wpAnyH_take (i := 9) ?hi9_8 ?hs9_8 ?hf9_8 ?hr9_8 ?hQ9_8 ?hy9_8 (by assumption) ?rest9_8
  case hi9_8 => simp only [List.getElem?_toArray, List.getElem?_cons_succ, List.getElem?_cons_zero] <;> rfl
  case hs9_8 => kernel_rfl
  case hf9_8 => kernel_rfl
  case hr9_8 => kernel_rfl
  case hQ9_8 => exact fun _ _ _ h => h
  case hy9_8 => exact Or.inl ⟨by rfl, fun w hSw => by go_simp <;> (try with_reducible rfl)⟩
  simp only [Act.put, List.setIfInBounds_toArray, List.set_cons_zero, List.set_cons_succ]
  refine wpAnyH_ready (rs := [10]) (by kernel_rfl) (by simp) ?_
  refine AllReadyH.cons rfl (fun K hK => ?_) AllReadyH.nil
  go_simp
  refine hK.out _ _ (Touch.alloc hHeld _) (fun hHeld => ?_)
  clear hK K
  refine' wpAnyH_take (i := 11) ?hi11_8 ?hs11_8 ?hf11_8 ?hr11_8 ?hQ11_8 ?hy11_8 (by assumption) ?rest11_8
  case hi11_8 => simp only [List.getElem?_toArray, List.getElem?_cons_succ, List.getElem?_cons_zero] <;> rfl
  case hs11_8 => kernel_rfl
  case hf11_8 => kernel_rfl
  case hr11_8 => kernel_rfl
  case hQ11_8 => exact fun _ _ _ h => h
  case hy11_8 => exact Or.inl ⟨by rfl, fun w hSw => by go_simp <;> (try with_reducible rfl)⟩
  simp only [Act.put, List.setIfInBounds_toArray, List.set_cons_zero, List.set_cons_succ]
  refine wpAnyH_done (by kernel_rfl) ?_ _
  refine NoPanic.normal ?_
  go_wp2_with fail
  refine named (fun W3 hW3 => ?_)
  have K23 : Keeps W2 W3 := by rw [hW3]; exact hHeld
  have BR3 : BL W3 w3.heap.size 70 [.pointer (some ⟨ba, 0, none⟩), .pointer (some ⟨ba, 0, none⟩), .pointer (some ⟨bt, 0, none⟩), .int .i64 (y 0).f, .int .i64 (y 0).t, .int .i64 (y 0).e, .int .i64 (y 1).f, .int .i64 (y 1).t, .int .i64 (y 1).e, .int .i64 (y 2).f, .int .i64 (y 2).t, .int .i64 (y 2).e, .int .i64 (y 3).f, .int .i64 (y 3).t, .int .i64 (y 3).e, .int .i64 thr, .int .i64 (y 3).f, .int .i64 (y 3).t, .int .i64 (y 3).e, .int .i64 (y 0).f, .int .i64 (y 0).t, .int .i64 (y 0).e, .slice none 0 0, .slice none 0 0] := by rw [hW3]; exact BL.new1 _ 70 _ [.pointer (some ⟨ba, 0, none⟩), .pointer (some ⟨ba, 0, none⟩), .pointer (some ⟨bt, 0, none⟩), .int .i64 (y 0).f, .int .i64 (y 0).t, .int .i64 (y 0).e, .int .i64 (y 1).f, .int .i64 (y 1).t, .int .i64 (y 1).e, .int .i64 (y 2).f, .int .i64 (y 2).t, .int .i64 (y 2).e, .int .i64 (y 3).f, .int .i64 (y 3).t, .int .i64 (y 3).e, .int .i64 thr, .int .i64 (y 3).f, .int .i64 (y 3).t, .int .i64 (y 3).e, .int .i64 (y 0).f, .int .i64 (y 0).t, .int .i64 (y 0).e, .slice none 0 0, .slice none 0 0] _ rfl (by first | rfl | kernel_rfl)
  have K3 := Keeps.trans K2 K23
  have BY3 := BY2.keep K23
  have BZ3 := BZ2.keep K23
  have lz := BZ2.lt
  clear hW3 hHeld K12 HCY2 BY2 BZ2 HOn
  have lb3 := BR3.lt
  generalize w3.heap.size = rb at *
  have R3 : Rn W3 ba bw n f bt A m cap C rb y thr (y 3) (y 0) (.slice none 0 0) (.slice none 0 0) := ⟨hS.keep K3, BR3, by have := hN0.2.2.2; exact ⟨by omega, by omega, by omega, fun b off e => by have := this b off e; omega⟩⟩
  have HRa := Lib.hid hra
  have hrb1 : ∀ b off, ra = some ⟨b, off, none⟩ → b ≠ rb := fun b off e => by have := hraw b off e; omega
  refine Calls.mono (check_any H R3 hm (HRa.out.keep K3) hrn (fun i hi => hrt _ (getD_mem hi)) hrb1 (hD.keep K3) ⟨by omega, by omega, by omega⟩ hO hdirty) ?_
  rintro e w4 ⟨ov4, av4, he, R4, hOv, hAv, T4⟩
  rw [if_neg (show ¬ ((y 0).e - (y 0).t < usedY y) by omega)] at he
  subst he
  obtain ⟨oa, oc, hv⟩ := hOv.form
  subst hv
  obtain ⟨aa, ac, hv⟩ := hAv.form
  subst hv
  obtain ⟨no, hno⟩ : ∃ no, (G 0).length = no := ⟨_, rfl⟩
  obtain ⟨na, hna⟩ : ∃ na, (G 0 ++ (G 1 ++ G 2)).length = na := ⟨_, rfl⟩
  have hac : na ≤ ac ∧ ac ≤ 9223372036854775807 ∧ ((aa = none ∧ ac = 0) ∨ ∃ g, aa = some ⟨g, 0, none⟩) := by
    obtain ⟨a1, c1, h1, h2, h3, h4⟩ := own_cap hAv
    simp only [Value.slice.injEq] at h1
    rw [h1.1, h1.2.2]
    exact ⟨by omega, h3, h4⟩
  have hrdA := hAv.rd
  have hrdO := hOv.rd
  rw [hna] at hrdA R4
  rw [hno] at hrdO R4
  have HFr := Lib.hid (fresh_any H R4 hm hrdA.1 hno.symm hna.symm hac.1 hac.2.1 (fun b off e => by have := hrdA.2 b off e; omega) hac.2.2)
  have HOl := Lib.hid hrdO
  have HT4 := Lib.hid T4
  have z4 := T4.size
  have BY4 := BY3.touch T4 (show ¬ (w.heap.size = rb) by omega)
  have BZ4 := BZ3.touch T4 (show ¬ (w.heap.size + 1 = rb) by omega)
  have HD4 := Lib.hid ((hD.keep K3).touch T4 (show ¬ (tb = rb) by omega) (show ¬ (mb = rb) by omega) (show ¬ (vb = rb) by omega))
  have TW4 : Touch (fun k => k = rb ∨ k = bw) w w4 := Touch.trans (K3.mono (fun _ e _ => e.elim)) T4 (fun _ e _ => .inl e)
  clear hAv hOv hac hrdA hrdO T4 R3 R4 BR3 BY3 BZ3
  go_wp2_with fail
  refine Calls.mono HFr.out ?_
  rintro e w5 ⟨rfl, R5, T5⟩
  have z5 := T5.size
  have BY5 := BY4.touch T5 (show ¬ (w.heap.size = rb ∨ w.heap.size = bw) by omega)
  have BZ5 := BZ4.touch T5 (show ¬ (w.heap.size + 1 = rb ∨ w.heap.size + 1 = bw) by omega)
  have HD5 := Lib.hid (HD4.out.touch T5 (show ¬ (tb = rb ∨ tb = bw) by omega) (show ¬ (mb = rb ∨ mb = bw) by omega) (show ¬ (vb = rb ∨ vb = bw) by omega))
  have HT5 := Lib.hid (Touch.trans TW4 T5 (fun _ e _ => e))
  have HOl5 := Lib.hid (show Rd w5 oa no (intF .i64 fun j => (G 0).getD j 0) ∧ ∀ b off, oa = some ⟨b, off, none⟩ → rb < b ∧ b < w5.heap.size from ⟨HOl.out.1.keepS T5 (fun b off e h => by have := HOl.out.2 b off e; have : b = rb ∨ b = bw := h; omega), fun b off e => by have := HOl.out.2 b off e; omega⟩)
  have HR5 := Lib.hid R5
  have HBY5 := Lib.hid BY5
  have HBZ5 := Lib.hid BZ5
  have HN0 := Lib.hid hno
  obtain ⟨SK, hSK⟩ : ∃ SK : Nat → Sc, SK = fun k => (mvL (mvd n m C (ygB (y 1) (y 2)) thr) (rl.take k) ⟨frF f (G 1 ++ G 2), y 3, y 0⟩).1 := ⟨_, rfl⟩
  obtain ⟨OK, hOK⟩ : ∃ OK : Nat → List Int, OK = fun k => (mvL (mvd n m C (ygB (y 1) (y 2)) thr) (rl.take k) ⟨frF f (G 1 ++ G 2), y 3, y 0⟩).2 := ⟨_, rfl⟩
  obtain ⟨MV, hMV⟩ : ∃ MV : Nat → Sc × Int, MV = fun k => mvd n m C (ygB (y 1) (y 2)) thr (SK k) (rl.getD k 0) := ⟨_, rfl⟩
  obtain ⟨TK, hTK⟩ : ∃ TK : Nat → Sc, TK = fun k => scL (scn n m C (ygB (y 1) (y 2)) thr) ((G 0).take k) (mvL (mvd n m C (ygB (y 1) (y 2)) thr) rl ⟨frF f (G 1 ++ G 2), y 3, y 0⟩).1 := ⟨_, rfl⟩
  have HMv := Lib.hid (show ∀ k, k < rl.length → ∀ w', Rn w' ba bw n (SK k).f bt A m cap C rb y thr (SK k).tt (SK k).od (.slice oa no oc) (.slice aa na ac) → Calls Try.prog 25 #[.pointer (some ⟨rb, 0, none⟩), .int .i64 (rl.getD k 0)] w' fun e w2 => e = .returned (.int .i64 (MV k).2) ∧ Rn w2 ba bw n (SK (k + 1)).f bt A m cap C rb y thr (SK (k + 1)).tt (SK (k + 1)).od (.slice oa no oc) (.slice aa na ac) ∧ Touch (fun k => k = rb ∨ k = bw) w' w2 from fun k hk w' hR => by
    obtain ⟨φ, I, Ac⟩ := roots_at (thr := thr) V Gy HT'.out hO' hr3 k
    have e1 : SK (k + 1) = (MV k).1 := by subst hMV hSK; dsimp only; rw [take_snoc hk, mvL_append]
    rw [e1]
    subst hMV hSK
    exact move_any V Gy I Ac hR hm hO0 (hr3 _ (getD_mem hk)))
  have HOK := Lib.hid (show ∀ k, k < rl.length → OK (k + 1) = OK k ++ [(MV k).2] from fun k hk => by subst hMV hSK hOK; dsimp only; rw [take_snoc hk, mvL_append])
  have HSc := Lib.hid (show ∀ k, k < no → ∀ w', Rn w' ba bw n (TK k).f bt A m cap C rb y thr (TK k).tt (TK k).od (.slice oa no oc) (.slice aa na ac) → Calls Try.prog 26 #[.pointer (some ⟨rb, 0, none⟩), .int .i64 ((G 0).getD k 0)] w' fun e w2 => (∃ z : Int, e = .returned (.int .i64 z)) ∧ Rn w2 ba bw n (TK (k + 1)).f bt A m cap C rb y thr (TK (k + 1)).tt (TK (k + 1)).od (.slice oa no oc) (.slice aa na ac) ∧ Touch (fun k => k = rb ∨ k = bw) w' w2 from fun k hk w' hR => by
    rw [← hno] at hk
    obtain ⟨φ, sn, LT, LO, I, Ac, _, _, hs0⟩ := olds_at (thr := thr) V Gy Hcl HT'.out hO' hnD hr3 k
    have e1 : TK (k + 1) = (scn n m C (ygB (y 1) (y 2)) thr (TK k) ((G 0).getD k 0)).1 := by subst hTK; dsimp only; rw [take_snoc hk, scL_append]
    rw [e1]
    subst hTK
    have hmem := getD_mem hk
    have hnot : (G 0).getD k 0 ∉ (G 0).take k := fun h => by
      have := (hnD.sublist (List.take_sublist (k + 1) (G 0)))
      rw [take_snoc hk] at this
      exact (List.nodup_append.1 this).2.2 _ h _ (List.mem_singleton.2 rfl) rfl
    have hfm := (I.fmD V hmem).2
    have := scan_any V Gy Hcl I Ac hR hm hO0 (o := (G 0).getD k 0) (.inl hmem) (by rw [hfm]; exact hs0 _ hnot)
    rw [hfm] at this
    exact this.mono (fun e w2 q => ⟨⟨_, q.1⟩, q.2⟩))
  have HStart := Lib.hid (start_SI (thr := thr) V Gy Hcl HT'.out hO' hnD hr3)
  have hno4 : no ≤ 4096 := by rw [← hno]; exact H.len (by omega)
  have htt0 : (TK no).tt.f = (y 3).f := by
    obtain ⟨φ, sn, LT, LO, I, _⟩ := olds_at (thr := thr) V Gy Hcl HT'.out hO' hnD hr3 no
    subst hTK
    exact I.to_.1
  have hS0 : SK 0 = ⟨frF f (G 1 ++ G 2), y 3, y 0⟩ := by subst hSK; rfl
  have hOK0 : OK 0 = [] := by subst hOK; rfl
  have hT0 : TK 0 = SK rl.length := by subst hTK hSK; dsimp only; rw [List.take_length]; rfl
  have HEnd := Lib.hid (show OK rl.length = (mvL (mvd n m C (ygB (y 1) (y 2)) thr) rl ⟨frF f (G 1 ++ G 2), y 3, y 0⟩).2 ∧ TK no = scL (scn n m C (ygB (y 1) (y 2)) thr) (G 0) (mvL (mvd n m C (ygB (y 1) (y 2)) thr) rl ⟨frF f (G 1 ++ G 2), y 3, y 0⟩).1 from by
    subst hOK hTK; dsimp only; rw [List.take_length, ← hno, List.take_length]; exact ⟨rfl, rfl⟩)
  have HOL := Lib.hid (show ∀ k, k ≤ rl.length → (OK k).length = k from fun k => by
    induction k with
    | zero => intro _; rw [hOK0]; rfl
    | succ k ih => intro hk; rw [HOK.out k hk, List.length_append, ih (by omega)]; rfl)
  have HS0 := Lib.hid hS0
  have HT0 := Lib.hid hT0
  have HTT0 := Lib.hid htt0
  have HRs := Lib.hid (show Rn w5 ba bw n (SK 0).f bt A m cap C rb y thr (SK 0).tt (SK 0).od (.slice oa no oc) (.slice aa na ac) from by rw [hS0]; exact R5)
  clear hSK hOK hMV hTK hS0 hT0 hOK0 htt0 HFr R5 T5 TW4 BY4 BZ4 BY5 BZ5 hno hna K3 K23 K2
  have hOKe : OK 0 = [] := List.length_eq_zero_iff.1 (HOL.out 0 (by omega))
  have HOKe := Lib.hid hOKe
  clear hOKe
  go_wp2_with fail
  go_loopw [15, 57] (fun v i wr => ∃ k : Nat, k ≤ rl.length ∧ i = .int .i64 k ∧ OwnInts wr w5.heap.size v (OK k) ∧ Rn wr ba bw n (SK k).f bt A m cap C rb y thr (SK k).tt (SK k).od (.slice oa no oc) (.slice aa na ac) ∧ Touch (fun k => k = rb ∨ k = bw) w5 wr ∧ w5.heap.size ≤ wr.heap.size) (fun _ i _ => rl.length - (intOf i).toNat)
  case atStart => exact ⟨0, by omega, rfl, by rw [HOKe.out]; exact A5.own_empty w5 _ _ rfl (Nat.le_refl _), HRs.out.keep ((Touch.refl _ w5).alloc _), (Touch.refl _ w5).alloc _, by simp⟩
  case round =>
    obtain ⟨wo, rfl⟩ : ∃ wo : World, wo = wr := ⟨_, rfl⟩
    obtain ⟨k, hk, rfl, hown, hRn, To, zo⟩ := hrel
    have HRn := Lib.hid hRn
    have HTo := Lib.hid To
    have HOw := Lib.hid hown
    have hlo := hown.lt
    obtain ⟨va, vc, hv⟩ := hown.form
    rw [HOL.out k hk] at hv
    subst hv
    clear hRn hown
    by_cases hlt : k < rl.length
    · obtain ⟨b2, off2, rfl, d3⟩ := (HRa.out.keepS (Touch.trans HT5.out To (fun _ e _ => e)) (fun b off e h => by have h1 := hrb1 b off e; have h2 := hraw b off e; have h3 : b = rb ∨ b = bw := h; omega)).one hlt
      have d4 : wo.cell? ⟨b2, off2 + k, none⟩ = some (.int .i64 (rl.getD k 0)) := d3
      have hkI : (k : Int) < rl.length := by omega
      have HMv1 := Lib.hid (HMv.out k hlt)
      have HOK1 := Lib.hid (HOK.out k hlt)
      clear d3 To
      generalize rl.getD k 0 = x at *
      generalize (MV k).2 = z at *
      go_wp2_with fail
      refine Calls.mono (HMv1.out _ HRn.out) ?_
      rintro e w6 ⟨rfl, R6, T6⟩
      have HR6 := Lib.hid R6
      have HT6 := Lib.hid (Touch.trans HTo.out T6 (fun _ e _ => e))
      have HO6 := Lib.hid (HOw.out.touch T6 (fun kk e h => by have := (hlo kk e).1; have : kk = rb ∨ kk = bw := h; omega))
      have z6 := T6.size
      clear R6 T6
      go_wp2_with (at_builtin; refine app_int ?_ (.tmp 61) (.tmp 65) ?_ w5.heap.size (.slice va k vc) (OK k) (HO6.out.alloc _) ?_ w6.heap.size z ?_ (cell_new _ _ _ _ rfl) (by have := HOL.out k hk; omega) (by simp; omega) ?_; rfl; rfl; rfl; rfl; intro v' w10 hown' hgr hbl; have HT10 := Lib.hid (Touch.grown (HT6.out.alloc (.cells #[.int .i64 z] 3)) hgr (fun kk e h => by have := (hlo kk e).1; omega)); have HR10 := Lib.hid (Rn.grown5 (HR6.out.keep ((Touch.refl _ w6).alloc (.cells #[.int .i64 z] 3))) hgr (fun kk e => by have := (hlo kk e).1; exact ⟨by omega, by omega⟩) hN0); have HO10 := Lib.hid hown'; have z10 := hgr.size; clear hgr hbl hown')
      go_roundw
      case rel => exact ⟨k + 1, by omega, by go_num, by rw [HOK1.out]; exact HO10.out, HR10.out, HT10.out, by simp at z10; omega⟩
      case measure => simp [intOf]; omega
    · obtain rfl : k = rl.length := by omega
      have HOv := Lib.hid (show OwnInts wo w5.heap.size (.slice va rl.length vc) (OK rl.length) from HOw.out)
      have HOlo := Lib.hid hlo
      have HR7 := Lib.hid (show Rn wo ba bw n (TK 0).f bt A m cap C rb y thr (TK 0).tt (TK 0).od (.slice oa no oc) (.slice aa na ac) from by rw [HT0.out]; exact HRn.out)
      have hro := HRn.out.blk
      have c22 : wo.cell? ⟨rb, 22, none⟩ = some (.slice oa no oc) := hro.c 22 _ rfl
      have hbl := hro.lt
      clear hro hlt HOw hlo HMv HOK
      go_wp2_with fail
      clear c22
      trace_state
      go_loopw [73] (fun i wr => ∃ k : Nat, k ≤ no ∧ i = .int .i64 k ∧ Rn wr ba bw n (TK k).f bt A m cap C rb y thr (TK k).tt (TK k).od (.slice oa no oc) (.slice aa na ac) ∧ Touch (fun k => k = rb ∨ k = bw) wo wr) (fun i _ => no - (intOf i).toNat)
      case atStart => exact ⟨0, by omega, rfl, HR7.out, Touch.refl _ wo⟩
      case round =>
        obtain ⟨wp, rfl⟩ : ∃ wp : World, wp = wr := ⟨_, rfl⟩
        obtain ⟨k, hk, rfl, hRn, Tp⟩ := hrel
        have HRp := Lib.hid hRn
        have HTp := Lib.hid Tp
        clear hRn
        by_cases hlt : k < no
        · obtain ⟨b2, off2, rfl, d3⟩ := (HOl5.out.1.keepS (Touch.trans HTo.out Tp (fun _ e _ => e)) (fun b off e h => by have h1 := HOl5.out.2 b off e; have h3 : b = rb ∨ b = bw := h; omega)).one hlt
          have d4 : wp.cell? ⟨b2, off2 + k, none⟩ = some (.int .i64 ((G 0).getD k 0)) := d3
          have hkI : (k : Int) < no := by omega
          have HSc1 := Lib.hid (HSc.out k hlt)
          clear d3 Tp
          generalize (G 0).getD k 0 = x at *
          go_wp2_with fail
          refine Calls.mono (HSc1.out _ HRp.out) ?_
          rintro e w6 ⟨⟨z, rfl⟩, R6, T6⟩
          have HR6 := Lib.hid R6
          have HT6 := Lib.hid (Touch.trans HTp.out T6 (fun _ e _ => e))
          have z6 := T6.size
          clear R6 T6
          go_wp2_with fail
          go_roundw
          case rel => exact ⟨k + 1, by omega, by go_num, HR6.out, HT6.out⟩
          case measure => simp [intOf]; omega
        · obtain rfl : k = no := by omega
          have HBYp := Lib.hid ((HBY5.out.touch HTo.out (show ¬ (w.heap.size = rb ∨ w.heap.size = bw) by omega)).touch HTp.out (show ¬ (w.heap.size = rb ∨ w.heap.size = bw) by omega))
          have HBZp := Lib.hid ((HBZ5.out.touch HTo.out (show ¬ (w.heap.size + 1 = rb ∨ w.heap.size + 1 = bw) by omega)).touch HTp.out (show ¬ (w.heap.size + 1 = rb ∨ w.heap.size + 1 = bw) by omega))
          have HDp := Lib.hid ((HD5.out.touch HTo.out (show ¬ (tb = rb ∨ tb = bw) by omega) (show ¬ (mb = rb ∨ mb = bw) by omega) (show ¬ (vb = rb ∨ vb = bw) by omega)).touch HTp.out (show ¬ (tb = rb ∨ tb = bw) by omega) (show ¬ (mb = rb ∨ mb = bw) by omega) (show ¬ (vb = rb ∨ vb = bw) by omega))
          have HOp := Lib.hid (HOv.out.touch HTp.out (fun kk e h => by have := (HOlo.out kk e).1; have : kk = rb ∨ kk = bw := h; omega))
          have hro := HRp.out.blk
          have hby := HBYp.out
          have hrl := hro.lt
          have hyl := hby.lt
          have p16 : wp.cell? ⟨rb, 16, none⟩ = some (.int .i64 (y 3).f) := by have h := hro.c 16 _ rfl; rw [HTT0.out] at h; exact h
          have p1 : wp.cell? ⟨w.heap.size, 1, none⟩ = some (.int .i64 (y 0).t) := hby.c 1 _ rfl
          clear hro hby hlt HOv HSc
          go_wp2_with fail
          go_quiet (fail)
          go_wp2_with fail
          go_step3
          simp only [Exit.then]
          refine (‹∀ (a : Act) (w : World), Code.wp _ _ _ a w → _› _ _ ?_)
          have HQ := Lib.hid (show RJ n m C f y G thr rl ba bw bt A cap tb mb vb D w rb _ _ (y 3).f (y 0).t (TK k) (.slice va rl.length vc) (OK rl.length) wp from
            ⟨HRp.out, HBYp.out, HBZp.out, HOp.out.mono (by omega), fun kk e => by have := (HOlo.out kk e).1; omega, by rw [HEnd.out.2]; exact HStart.out, fun s' q => by rw [HEnd.out.2] at q; exact q, HDp.out, by omega, HEnd.out.1,
              Touch.trans (Touch.refl (fun k => k = bw) w) (Touch.trans HT5.out (Touch.trans HTo.out HTp.out (fun _ e _ => e)) (fun _ e _ => e)) (fun x e hx => e.elim (fun e => by omega) id)⟩)
          exact HH.out _ _ ⟨rfl, rfl, rb, .slice oa k oc, .slice aa na ac, (y 3).f, (y 0).t, TK k, .slice va rl.length vc, OK rl.length, rfl, rfl, rfl, rfl, rfl, rfl, rfl, HQ.out.keep ((Touch.refl _ wp).drewN _)⟩
end

end Go.Proofs.Ytabfbgkablbeeaa
