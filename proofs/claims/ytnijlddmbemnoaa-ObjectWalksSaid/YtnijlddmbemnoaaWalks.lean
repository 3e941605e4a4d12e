/- The law ObjectWalks. -/
import Derived.Test.YtnijlddmbemnoaaLays
import Derived.Test.YtnijlddmbemnoaaTile
namespace Go.Proofs.Ytnijlddmbemnoaa
open Go.RowKit

/-- A gap of any size. -/
def gapF (f : Nat → Int) (a k : Int) : Nat → Int := if k = 1 then putF f a.toNat gap1W else putF (putF f a.toNat gapW) (a + 1).toNat k
theorem gap_any (ba bw n : Nat) (f : Nat → Int) (bt : Nat) (A : Option Addr) (m cap : Nat) (C : Nat → Cl) (w : World) (h : St w ba bw n f bt A m cap C) (a k : Int) (hk : 1 ≤ k) (hT : thB n a k = true) :
    Calls Try.prog 26 #[stV ba bt, .int .i64 a, .int .i64 k] w fun e w' => e = .returned (.int .i64 0) ∧ St w' ba bw n (gapF f a k) bt A m cap C ∧ Only bw w w' := by
  unfold gapF
  by_cases h1 : k = 1
  · rw [if_pos h1]; exact gap_one ba bw n f bt A m cap C w h a k h1 hT
  · rw [if_neg h1]; exact gap_more ba bw n f bt A m cap C w h a k (by omega) hT
theorem gapF_out {f : Nat → Int} {a k : Int} (h : 0 ≤ a) (hk : 1 ≤ k) {j : Nat} (h1 : (j : Int) < a ∨ a + k ≤ j) : gapF f a k j = f j := by
  unfold gapF
  by_cases hk1 : k = 1
  · rw [if_pos hk1]; exact putF_ne (by omega)
  · rw [if_neg hk1, putF_ne (by omega), putF_ne (by omega)]
theorem gapF_at {n m : Nat} {f : Nat → Int} {C : Nat → Cl} {a k : Int} (hk : 1 ≤ k) (hT : thB n a k = true) : (atT n (gapF f a k) m C a).2 = 0 ∧ (atT n (gapF f a k) m C a).1.words = k ∧ (atT n (gapF f a k) m C a).1.is = false := by
  obtain ⟨t1, t2, t3, t4⟩ := thB_true.1 hT
  unfold gapF
  by_cases hk1 : k = 1
  · subst hk1
    rw [if_pos rfl, atT_one (hd := ⟨0, 0, 0, true, false, false⟩) hT (by rw [putF_self, raw_gap1]; decide) (by rw [putF_self]; exact raw_gap1) rfl rfl]
    exact ⟨rfl, rfl, rfl⟩
  · have e1 : putF (putF f a.toNat gapW) (a + 1).toNat k a.toNat = gapW := by rw [putF_ne (by omega), putF_self]
    rw [if_neg hk1, atT_gap (hd := ⟨0, 0, 0, false, false, false⟩) (x := k) (thB_true.2 ⟨t1, by omega, t3, by omega⟩) (by rw [e1, raw_gap]; decide) (by rw [e1]; exact raw_gap) rfl rfl (by omega) (putF_self _ _ _) (by omega) hT]
    exact ⟨rfl, rfl, rfl⟩
/-- A store's blocks lie below. -/
def St.below (base ba bw bt : Nat) (A : Option Addr) (m : Nat) : Prop := ba < base ∧ bw < base ∧ bt < base ∧ (0 < m → ∀ b off, A = some ⟨b, off, none⟩ → b < base)
theorem Tb.touchP {S : Nat → Prop} {w w' : World} {bt : Nat} {A : Option Addr} {m cap : Nat} {C : Nat → Cl} (h : Tb w bt A m cap C) (ht : Touch S w w') (h1 : ¬ S bt) (h2 : 0 < m → ∀ b off, A = some ⟨b, off, none⟩ → ¬ S b) : Tb w' bt A m cap C :=
  ⟨h.head.touch ht h1, fun hn => (h.body.keepS ht (h2 (by omega))) hn, h.le, h.ok⟩
theorem St.bel {w : World} {ba bw n : Nat} {f : Nat → Int} {bt : Nat} {A : Option Addr} {m cap : Nat} {C : Nat → Cl} (h : St w ba bw n f bt A m cap C) : St.below w.heap.size ba bw bt A m :=
  ⟨h.ar.lt1, h.ar.lt2, h.tb.head.lt, fun hm b off e => by
    obtain ⟨b', off', e', hb, _⟩ := h.tb.body (by omega)
    rw [e] at e'
    cases e'
    exact hb⟩
theorem St.below_mono {B B' ba bw bt m : Nat} {A : Option Addr} (h : St.below B ba bw bt A m) (hb : B ≤ B') : St.below B' ba bw bt A m :=
  ⟨by have := h.1; omega, by have := h.2.1; omega, by have := h.2.2.1; omega, fun hm b off e => by have := h.2.2.2 hm b off e; omega⟩
/-- What holds at the head of a round: so much has been laid. -/
structure WLoop (w : World) (base ba bw bt : Nat) (A' : Option Addr) (m cap' : Nat) (C : Nat → Cl) (bS bR : Nat) (lS lR : List Value) (q : Nat) (a sz : Int) (accT acc : List Int) (f : Nat → Int) (v : Value) (wr : World) : Prop where
  st : St wr ba bw 4096 f bt A' m cap' C
  tiles : Tiles (atT 4096 f m C) 1 a accT
  own : OwnInts wr base v acc
  keeps : Keeps w wr
  b1 : BL wr bS 26 lS
  b2 : BL wr bR 41 lR
  a1 : 1 ≤ a
  a2 : a ≤ 1 + 32 * q
  len : acc.length ≤ q
  last : (q = 0 ∧ sz = 0 ∧ a = 1) ∨ (1 ≤ sz ∧ ∃ L', Tiles (atT 4096 f m C) 1 (a - sz) L' ∧ (atT 4096 f m C (a - sz)).2 = 0 ∧ (atT 4096 f m C (a - sz)).1.words = sz)
  bs : base ≤ wr.heap.size
theorem walks_last {T : Int → Th × Int} {q : Nat} {a sz : Int} (h : (q = 0 ∧ sz = 0 ∧ a = 1) ∨ (1 ≤ sz ∧ ∃ L', Tiles T 1 (a - sz) L' ∧ (T (a - sz)).2 = 0 ∧ (T (a - sz)).1.words = sz)) {L : List Int} {x : Int} (hW : WalkR T (a - 1) 1 L x) :
    (x = 12 ∧ 1 < sz) ∨ (x = 0 ∧ ¬ 1 < sz) := by
  rcases h with ⟨_, h1, h2⟩ | ⟨h1, L', h2, h3, h4⟩
  · have := hW.det (WalkR.done (by omega))
    exact .inr ⟨this.2, by omega⟩
  · by_cases hs : 1 < sz
    · have := hW.det (h2.far (z := a - 1) h3 (by omega) (by rw [h4]; omega))
      exact .inl ⟨this.2, hs⟩
    · obtain rfl : sz = 1 := by omega
      have := hW.det h2.walk
      exact .inr ⟨this.2, hs⟩
theorem WLoop.start {w w0 : World} {ba bw bt : Nat} {A' : Option Addr} {m cap' : Nat} {C : Nat → Cl} {bS bR : Nat} {lS lR : List Value} {f : Nat → Int} (hS : St w0 ba bw 4096 f bt A' m cap' C)
    (h1 : BL w0 bS 26 lS) (h2 : BL w0 bR 41 lR) (hK : Keeps w w0) (_ : True ∨ 0 = 0) : WLoop w w0.heap.size ba bw bt A' m cap' C bS bR lS lR 0 1 0 [] [] f (.slice none 0 0) w0 :=
  ⟨hS, .nil _, OwnInts.nil_ _ _, hK, h1, h2, by decide, by decide, Nat.le_refl _, .inl ⟨rfl, rfl, rfl⟩, Nat.le_refl _⟩
theorem WLoop.gap {w wr w' : World} {base ba bw bt : Nat} {A' : Option Addr} {m cap' : Nat} {C : Nat → Cl} {bS bR : Nat} {lS lR : List Value} {q : Nat} {a sz k : Int} {acc : List Int} {f : Nat → Int} {v : Value} (hC : ∀ j, j < m → (C j).ok)
    (h : WLoop w base ba bw bt A' m cap' C bS bR lS lR q a sz acc acc f v wr) (hT : thB 4096 a k = true) (hk : 1 ≤ k ∧ k ≤ 32) (s9 : St w' ba bw 4096 (gapF f a k) bt A' m cap' C) (o9 : Only bw wr w')
    (h0 : w.heap.size ≤ bw) (h1 : bw < base) (h2 : bS ≠ bw ∧ bR ≠ bw) : WLoop w base ba bw bt A' m cap' C bS bR lS lR (q + 1) (a + k) k acc acc (gapF f a k) v w' := by
  obtain ⟨g1, g2, g3⟩ := gapF_at (f := f) (C := C) (m := m) hk.1 hT
  have hT2 := h.tiles.congr hC (g := gapF f a k) (fun j j1 j2 => gapF_out (by have := h.a1; omega) hk.1 (.inl j2))
  have hone := Tiles.one g1 (by rw [g2]; exact hk.1)
  rw [g2, g3] at hone
  have hap := hT2.append hone
  simp only [Bool.false_eq_true, if_false, List.append_nil] at hap
  have ha1 := h.a1
  have ha2 := h.a2
  refine ⟨s9, hap, h.own.touch o9 (fun k' e hk' => by have := (h.own.lt k' e).1; have h3 : k' = bw := hk'; omega), h.keeps.new o9 h0, h.b1.touch o9 h2.1, h.b2.touch o9 h2.2, by omega, by omega, by have := h.len; omega, .inr ⟨hk.1, acc, ?_, ?_, ?_⟩, by have := h.bs; have := o9.size; omega⟩
  · rw [show a + k - k = a by omega]; exact hT2
  · rw [show a + k - k = a by omega]; exact g1
  · rw [show a + k - k = a by omega]; exact g2

theorem WLoop.keep {w wr w' : World} {base ba bw bt : Nat} {A' : Option Addr} {m cap' : Nat} {C : Nat → Cl} {bS bR : Nat} {lS lR : List Value} {q : Nat} {a sz : Int} {accT acc : List Int} {f : Nat → Int} {v : Value}
    (h : WLoop w base ba bw bt A' m cap' C bS bR lS lR q a sz accT acc f v wr) (k : Keeps wr w') : WLoop w base ba bw bt A' m cap' C bS bR lS lR q a sz accT acc f v w' :=
  ⟨h.st.keep k, h.tiles, h.own.keep k, h.keeps.trans k, h.b1.keep k, h.b2.keep k, h.a1, h.a2, h.len, h.last, by have := h.bs; have := k.size; omega⟩
theorem WLoop.grow {w wr wx w' : World} {base ba bw bt : Nat} {A' : Option Addr} {m cap' : Nat} {C : Nat → Cl} {bS bR : Nat} {lS lR : List Value} {q : Nat} {a sz : Int} {accT acc acc2 : List Int} {f : Nat → Int} {v v' : Value}
    (h : WLoop w base ba bw bt A' m cap' C bS bR lS lR q a sz accT acc f v wr) (k : Keeps wr wx) (hown : OwnInts w' base v' acc2) (hg : wx.grownBy w' v.ownBlock) (hl : acc2.length ≤ q) (hb : w.heap.size ≤ base) (hf : St.below base ba bw bt A' m ∧ bS < base ∧ bR < base) :
    WLoop w base ba bw bt A' m cap' C bS bR lS lR q a sz accT acc2 f v' w' := by
  have hlo := h.own.lt
  obtain ⟨⟨f1, f2, f3, f4⟩, f5, f6⟩ := hf
  have ht : Touch (fun k => v.ownBlock = some k) wx w' := Touch.grown (Touch.refl _ wx) hg (fun k e _ => e)
  have hs := h.st.keep k
  refine ⟨⟨hs.ar.touch ht (fun e => by have := (hlo _ e).1; omega) (fun e => by have := (hlo _ e).1; omega), hs.tb.touchP ht (fun e => by have := (hlo _ e).1; omega) (fun hm b off e e2 => by have := (hlo _ e2).1; have := f4 hm b off e; omega), hs.ne, hs.neA⟩,
    h.tiles, hown, (h.keeps.trans k).grown hg (fun k e => by have := (hlo k e).1; omega), (h.b1.keep k).touch ht (fun e => by have := (hlo _ e).1; omega), (h.b2.keep k).touch ht (fun e => by have := (hlo _ e).1; omega), h.a1, h.a2, hl, h.last, by have := h.bs; have := k.size; have := hg.size; omega⟩
theorem WLoop.lay {w wr w' : World} {base ba bw bt : Nat} {A' : Option Addr} {m cap' : Nat} {C : Nat → Cl} {bS bR : Nat} {lS lR : List Value} {q : Nat} {a sz k W len : Int} {hd : Hd} {r d : Int} {acc : List Int} {f : Nat → Int} {v : Value} (hC : ∀ j, j < m → (C j).ok)
    (h : WLoop w base ba bw bt A' m cap' C bS bR lS lR q a sz acc acc f v wr) (hA : ∀ f' : Nat → Int, f' a.toNat = W → f' (a + 1).toNat = len → thB 4096 a k = true → atT 4096 f' m C a = (⟨hd, r, d, k⟩, 0)) (hT : thB 4096 a k = true)
    (hc : hd.cls ≠ 0) (hk : 2 ≤ k ∧ k ≤ 32) (s9 : St w' ba bw 4096 (layF f a k W len) bt A' m cap' C) (o9 : Only bw wr w')
    (h0 : w.heap.size ≤ bw) (h1 : bw < base) (h2 : bS ≠ bw ∧ bR ≠ bw) : WLoop w base ba bw bt A' m cap' C bS bR lS lR (q + 1) (a + k) k (acc ++ [a]) acc (layF f a k W len) v w' := by
  have ha1 := h.a1
  have ha2 := h.a2
  have hat := hA (layF f a k W len) (layF_at (by omega)) layF_len hT
  have hT2 := h.tiles.congr hC (g := layF f a k W len) (fun j j1 j2 => layF_out (by omega) hk.1 (.inl j2))
  have hi : (Th.is ⟨hd, r, d, k⟩) = true := by unfold Th.is; simpa using hc
  have hone := Tiles.one (T := atT 4096 (layF f a k W len) m C) (a := a) (by rw [hat]) (by rw [hat]; show 1 ≤ k; omega)
  rw [hat] at hone
  dsimp only at hone
  rw [hi] at hone
  have hap := hT2.append hone
  rw [if_pos rfl] at hap
  refine ⟨s9, hap, h.own.touch o9 (fun k' e hk' => by have := (h.own.lt k' e).1; have h3 : k' = bw := hk'; omega), h.keeps.new o9 h0, h.b1.touch o9 h2.1, h.b2.touch o9 h2.2, by omega, by omega, by have := h.len; omega, .inr ⟨by omega, acc, ?_, ?_, ?_⟩, by have := h.bs; have := o9.size; omega⟩
  · rw [show a + k - k = a by omega]; exact hT2
  · rw [show a + k - k = a by omega, hat]
  · rw [show a + k - k = a by omega, hat]

set_option maxRecDepth 100000 in
set_option maxHeartbeats 8000000 in
theorem owalks_longk (w : World) (A : Option Addr) (m cap : Nat) (hA : A = none → m = 0 ∧ cap = 0) (C : Nat → Cl) (hr : Rd w A (m * 4) (clF C)) (AK : Option Addr) (nk ck : Nat) (KK : Nat → Int) (hK : Rd w AK nk (intF .u8 KK)) (bK : ∀ j, j < nk → 0 ≤ KK j ∧ KK j ≤ 255) (AL : Option Addr) (nl cl : Nat) (LL : Nat → Int) (hL : Rd w AL nl (intF .u8 LL)) (bL : ∀ j, j < nl → 0 ≤ LL j ∧ LL j ≤ 255) (hn : 60 < nk) : Calls Try.prog 7 #[.slice A m cap, .slice AK nk ck, .slice AL nl cl] w fun e w' => e = .returned (.bool true) ∧ Keeps w w' := by
  have hn' : (60 : Int) < (nk : Int) := by omega
  clear hr hK hL hA bK bL
  go_enter Try.func7, Try.ntmps7
  go_wp2_with fail
  have K0 := Touch.refl (fun _ => False) w
  refine Calls.mono (awake_any _) ?_
  rintro e w1 ⟨rfl, kw1⟩
  have Kw1 := Keeps.trans K0 kw1
  have zw1 := kw1.size
  clear K0 kw1
  go_wp2_with fail
  refine Calls.mono (awake_any _) ?_
  rintro e w2 ⟨rfl, kw2⟩
  have Kw2 := Keeps.trans Kw1 kw2
  have zw2 := kw2.size
  clear Kw1 kw2
  go_wp2_with fail
  go_ret
  exact ⟨rfl, Kw2⟩

set_option maxRecDepth 100000 in
set_option maxHeartbeats 8000000 in
theorem owalks_longl (w : World) (A : Option Addr) (m cap : Nat) (hA : A = none → m = 0 ∧ cap = 0) (C : Nat → Cl) (hr : Rd w A (m * 4) (clF C)) (AK : Option Addr) (nk ck : Nat) (KK : Nat → Int) (hK : Rd w AK nk (intF .u8 KK)) (bK : ∀ j, j < nk → 0 ≤ KK j ∧ KK j ≤ 255) (AL : Option Addr) (nl cl : Nat) (LL : Nat → Int) (hL : Rd w AL nl (intF .u8 LL)) (bL : ∀ j, j < nl → 0 ≤ LL j ∧ LL j ≤ 255) (hn : 200 < nl) (hn2 : nk ≤ 60) : Calls Try.prog 7 #[.slice A m cap, .slice AK nk ck, .slice AL nl cl] w fun e w' => e = .returned (.bool true) ∧ Keeps w w' := by
  have hn' : (200 : Int) < (nl : Int) := by omega
  have hn3 : (nk : Int) ≤ 60 := by omega
  clear hr hK hL hA bK bL
  go_enter Try.func7, Try.ntmps7
  go_wp2_with fail
  have K0 := Touch.refl (fun _ => False) w
  refine Calls.mono (awake_any _) ?_
  rintro e w1 ⟨rfl, kw1⟩
  have Kw1 := Keeps.trans K0 kw1
  have zw1 := kw1.size
  clear K0 kw1
  go_wp2_with fail
  refine Calls.mono (awake_any _) ?_
  rintro e w2 ⟨rfl, kw2⟩
  have Kw2 := Keeps.trans Kw1 kw2
  have zw2 := kw2.size
  clear Kw1 kw2
  go_wp2_with fail
  go_ret
  exact ⟨rfl, Kw2⟩

set_option maxRecDepth 100000 in
set_option maxHeartbeats 8000000 in
theorem owalks_full (w : World) (A : Option Addr) (m cap : Nat) (hA : A = none → m = 0 ∧ cap = 0) (C : Nat → Cl) (hr : Rd w A (m * 4) (clF C)) (AK : Option Addr) (nk ck : Nat) (KK : Nat → Int) (hK : Rd w AK nk (intF .u8 KK)) (bK : ∀ j, j < nk → 0 ≤ KK j ∧ KK j ≤ 255) (AL : Option Addr) (nl cl : Nat) (LL : Nat → Int) (hL : Rd w AL nl (intF .u8 LL)) (bL : ∀ j, j < nl → 0 ≤ LL j ∧ LL j ≤ 255) (s1 : nk ≤ 60) (s2 : nl ≤ 200) (hn : 100 < m) : Calls Try.prog 7 #[.slice A m cap, .slice AK nk ck, .slice AL nl cl] w fun e w' => e = .returned (.bool true) ∧ Keeps w w' := by
  have s3 : ¬ ((60 : Int) < (nk : Int)) := by omega
  have s4 : ¬ ((200 : Int) < (nl : Int)) := by omega
  have HB := Lib.hid (fun w' (k : Keeps w w') => both_full A m cap hA C 4096 (by omega) w' (hr.keep k) hn)
  clear hr hA hn hK hL bK bL
  have hz1 := zero_st
  have hz2 := zero_rst
  go_enter Try.func7, Try.ntmps7
  go_wp2_with fail
  have K0 := Touch.refl (fun _ => False) w
  refine Calls.mono (awake_any _) ?_
  rintro e w1 ⟨rfl, kw1⟩
  have Kw1 := Keeps.trans K0 kw1
  have zw1 := kw1.size
  clear K0 kw1
  go_wp2_with fail
  refine Calls.mono (HB.out _ Kw1) ?_
  rintro e w2 ⟨rfl, kw2⟩
  have Kw2 := Keeps.trans Kw1 kw2
  have zw2 := kw2.size
  clear Kw1 kw2
  go_wp2_with fail
  go_ret
  exact ⟨rfl, ((Kw2.alloc _).alloc _)⟩

set_option maxRecDepth 100000 in
set_option maxHeartbeats 8000000 in
theorem owalks_bad (w : World) (A : Option Addr) (m cap : Nat) (hA : A = none → m = 0 ∧ cap = 0) (C : Nat → Cl) (hr : Rd w A (m * 4) (clF C)) (AK : Option Addr) (nk ck : Nat) (KK : Nat → Int) (hK : Rd w AK nk (intF .u8 KK)) (bK : ∀ j, j < nk → 0 ≤ KK j ∧ KK j ≤ 255) (AL : Option Addr) (nl cl : Nat) (LL : Nat → Int) (hL : Rd w AL nl (intF .u8 LL)) (bL : ∀ j, j < nl → 0 ≤ LL j ∧ LL j ≤ 255) (s1 : nk ≤ 60) (s2 : nl ≤ 200) (hn : m ≤ 100 ∧ newE C m ≠ 0) : Calls Try.prog 7 #[.slice A m cap, .slice AK nk ck, .slice AL nl cl] w fun e w' => e = .returned (.bool true) ∧ Keeps w w' := by
  have s3 : ¬ ((60 : Int) < (nk : Int)) := by omega
  have s4 : ¬ ((200 : Int) < (nl : Int)) := by omega
  have HB := Lib.hid (fun w' (k : Keeps w w') => both_bad A m cap hA C 4096 (by omega) w' (hr.keep k) hn)
  clear hr hA hn hK hL bK bL
  have hz1 := zero_st
  have hz2 := zero_rst
  go_enter Try.func7, Try.ntmps7
  go_wp2_with fail
  have K0 := Touch.refl (fun _ => False) w
  refine Calls.mono (awake_any _) ?_
  rintro e w1 ⟨rfl, kw1⟩
  have Kw1 := Keeps.trans K0 kw1
  have zw1 := kw1.size
  clear K0 kw1
  go_wp2_with fail
  refine Calls.mono (HB.out _ Kw1) ?_
  rintro e w2 ⟨rfl, kw2⟩
  have Kw2 := Keeps.trans Kw1 kw2
  have zw2 := kw2.size
  clear Kw1 kw2
  go_wp2_with fail
  go_ret
  exact ⟨rfl, ((Kw2.alloc _).alloc _)⟩

set_option maxRecDepth 100000 in
set_option maxHeartbeats 8000000 in
theorem owalks_walk1 (w : World) (A : Option Addr) (m cap : Nat) (hA : A = none → m = 0 ∧ cap = 0) (C : Nat → Cl) (hr : Rd w A (m * 4) (clF C)) (AK : Option Addr) (nk ck : Nat) (KK : Nat → Int) (hK : Rd w AK nk (intF .u8 KK)) (bK : ∀ j, j < nk → 0 ≤ KK j ∧ KK j ≤ 255) (AL : Option Addr) (nl cl : Nat) (LL : Nat → Int) (hL : Rd w AL nl (intF .u8 LL)) (bL : ∀ j, j < nl → 0 ≤ LL j ∧ LL j ≤ 255) (s1 : nk ≤ 60) (s2 : nl ≤ 200) (hE : newE C m = 0) (h100 : m ≤ 100) : Calls Try.prog 7 #[.slice A m cap, .slice AK nk ck, .slice AL nl cl] w fun e w' => e = .returned (.bool true) ∧ Keeps w w' := by
  obtain ⟨hCr, h64⟩ := newE_zero.1 hE
  have s3 : ¬ ((60 : Int) < (nk : Int)) := by omega
  have s4 : ¬ ((200 : Int) < (nl : Int)) := by omega
  have HB := Lib.hid (fun w' (k : Keeps w w') => both_yes A m cap hA C 4096 (by omega) w' (hr.keep k) h100 hE)
  have hne : ((m : Int) + 1 == 0) = false := by simp; omega
  have HCr := Lib.hid hCr
  have HCok := Lib.hid (fun j hj => rgB_ok (hCr j hj))
  have HRd := Lib.hid hr
  have HKd := Lib.hid hK
  have HLd := Lib.hid hL
  have HbK := Lib.hid bK
  have HbL := Lib.hid bL
  clear hr hA hE hCr hK hL bK bL
  unfold stV at HB
  have hz1 := zero_st
  have hz2 := zero_rst
  have hz3 := zero_hd
  go_enter Try.func7, Try.ntmps7
  go_wp2_with fail
  have K0 := Touch.refl (fun _ => False) w
  refine Calls.mono (awake_any _) ?_
  rintro e w1 ⟨rfl, kw1⟩
  have Kw1 := Keeps.trans K0 kw1
  have zw1 := kw1.size
  clear K0 kw1
  go_wp2_with fail
  refine Calls.mono (HB.out _ Kw1) ?_
  rintro e wa ⟨ba, bw, bt, A', cap', ra, rw', rfl, hS, hRA, hRW, n1, n2, n3, n4, n5, n6, k1⟩
  have Kwa := Keeps.trans Kw1 k1
  have zwa := k1.size
  clear Kw1
  have hbw0 : w.heap.size ≤ bw := by omega
  have hbwl := hS.ar.lt2
  have HBl0 := Lib.hid (St.bel hS)
  clear hRA hRW k1 HB
  go_wp2_with fail
  refine named_code (fun W2 hW2 => ?_)
  have KW2 : Keeps w W2 := by rw [hW2]; exact ((Kwa.alloc _).alloc _)
  have BW2_S : BL W2 (wa.heap.size) 26 [.pointer (some ⟨ba, 0, none⟩), .pointer (some ⟨bt, 0, none⟩)] := by rw [hW2]; exact (BL.alloc (BL.new1 _ _ _ [.pointer (some ⟨ba, 0, none⟩), .pointer (some ⟨bt, 0, none⟩)] _ (by simp) rfl) _)
  have BW2_R : BL W2 (wa.heap.size + 1) 41 [.pointer (some ⟨ra, 0, none⟩), .slice A m cap] := by rw [hW2]; exact (BL.new1 _ _ _ [.pointer (some ⟨ra, 0, none⟩), .slice A m cap] _ (by simp) rfl)
  have zW2 : wa.heap.size + 2 ≤ W2.heap.size := by rw [hW2]; simp
  have SW2 := St.keep hS (show Keeps wa W2 by rw [hW2]; exact (((Touch.refl _ _).alloc _).alloc _))
  clear hS Kwa hW2
  have l3 := BW2_S.lt
  have l4 := BW2_R.lt
  have HBelow := Lib.hid (show St.below W2.heap.size ba bw bt A' m ∧ wa.heap.size < W2.heap.size ∧ wa.heap.size + 1 < W2.heap.size from ⟨St.below_mono HBl0.out (by omega), by omega, by omega⟩)
  clear HBl0
  have WL0 := WLoop.start (C := C) (m := m) SW2 BW2_S BW2_R KW2 (by omega)
  clear SW2
  go_loopw [11, 12, 13, 53] (fun v p s i wr => ∃ (q : Nat) (a sz : Int) (acc : List Int) (f : Nat → Int), q ≤ nk ∧ i = .int .i64 q ∧ p = .int .i64 a ∧ s = .int .i64 sz ∧ WLoop w W2.heap.size ba bw bt A' m cap' C (wa.heap.size) (wa.heap.size + 1) [.pointer (some ⟨ba, 0, none⟩), .pointer (some ⟨bt, 0, none⟩)] [.pointer (some ⟨ra, 0, none⟩), .slice A m cap] q a sz acc acc f v wr) (fun _ _ _ i _ => nk - (intOf i).toNat)
  case atStart => exact ⟨0, 1, 0, [], _, by omega, rfl, rfl, rfl, WL0⟩
  case round =>
    clear WL0 l3 l4 BW2_S BW2_R KW2
    obtain ⟨wo, rfl⟩ : ∃ wo : World, wo = wr := ⟨_, rfl⟩
    obtain ⟨q, a, sz, acc, f, hq, rfl, rfl, rfl, hWL⟩ := hrel
    have HWL := Lib.hid hWL
    obtain ⟨hS, hT, hO, hK, hB1, hB2, ha1, ha2, hlen, hlast, hbs⟩ := hWL
    have HT := Lib.hid hT
    have HO := Lib.hid hO
    have HLast := Lib.hid hlast
    have zK := hK.size
    clear hT hO hlast
    by_cases hlt : q < nk
    ·
      obtain ⟨kb, ko, rfl, cK⟩ := (HKd.out.keep hK).one hlt
      have cK2 : wo.cell? ⟨kb, ko + q, none⟩ = some (.int .u8 (KK q)) := cK
      obtain ⟨bk1, bk2⟩ := HbK.out q hlt
      have hlt' : (q : Int) < (nk : Int) := by omega
      have e0 := Int.emod_nonneg (KK q) (show (m : Int) + 1 ≠ 0 by omega)
      have e1 := Int.emod_lt_of_pos (KK q) (show (0 : Int) < (m : Int) + 1 by omega)
      clear cK
      have l5 := hB1.lt
      have l6 := hB2.lt
      have c7 : wo.cell? ⟨wa.heap.size, 0, none⟩ = some (.pointer (some ⟨ba, 0, none⟩)) := hB1.c 0 _ rfl
      have c8 : wo.cell? ⟨wa.heap.size, 1, none⟩ = some (.pointer (some ⟨bt, 0, none⟩)) := hB1.c 1 _ rfl
      have c9 : wo.cell? ⟨wa.heap.size + 1, 0, none⟩ = some (.pointer (some ⟨ra, 0, none⟩)) := hB2.c 0 _ rfl
      have c10 : wo.cell? ⟨wa.heap.size + 1, 1, none⟩ = some (.slice A m cap) := hB2.c 1 _ rfl
      by_cases hql : q < nl
      ·
        obtain ⟨lb, lo, rfl, cL⟩ := (HLd.out.keep hK).one hql
        have cL2 : wo.cell? ⟨lb, lo + q, none⟩ = some (.int .u8 (LL q)) := cL
        obtain ⟨bl1, bl2⟩ := HbL.out q hql
        have hql' : (q : Int) < (nl : Int) := by omega
        have l0 : 0 ≤ LL q % 31 := by omega
        have l1 : LL q % 31 ≤ 30 := by omega
        clear cL
        by_cases hn0 : KK q % ((m : Int) + 1) = 0
        ·
          clear e0 e1
          go_wp2_with fail
          have hth : thB 4096 a (1 + (LL q % 31)) = true := thB_true.2 ⟨by omega, by omega, by omega, by omega⟩
          refine Calls.mono (gap_any ba bw 4096 f bt A' m cap' C _ hS a (1 + (LL q % 31)) (by omega) hth) ?_
          rintro e w9 ⟨rfl, s9, o9⟩
          have WN := WLoop.gap HCok.out HWL.out hth (by omega) s9 o9 (by omega) (by omega) (by omega)
          have HWN := Lib.hid WN
          clear WN s9 o9 hth
          go_wp2_with fail
          go_roundw
          case rel => exact ⟨q + 1, a + (1 + (LL q % 31)), (1 + (LL q % 31)), acc, _, by omega, by go_num, rfl, rfl, HWN.out⟩
          case measure => simp [intOf]; omega
        ·
          obtain ⟨c, hc⟩ : ∃ c : Nat, KK q % ((m : Int) + 1) = (c : Int) + 1 := ⟨(KK q % ((m : Int) + 1) - 1).toNat, by omega⟩
          have hcm : c < m := by omega
          have hc0 : ((c : Int) + 1 == 0) = false := by simp; omega
          clear hn0 e0 e1
          obtain ⟨cb, co, rfl, c0, _, _, c3⟩ := cl_cells (HRd.out.keep hK) hcm
          have hcb : cb < wo.heap.size := block_lt_of_cell c0
          by_cases hk2 : (C c).kind = 2
          ·
            have hkb : ((C c).kind != 2) = false := by simpa using hk2
            have HEc := Lib.hid (show shE C m ((c : Int) + 1) (LL q % 31) = 0 by rw [Int.add_comm]; exact lays_e HCr.out hcm (.inl ⟨by omega, by omega, hk2⟩))
            have HKc := Lib.hid (show shW C m ((c : Int) + 1) (LL q % 31) ≤ 32 by rw [Int.add_comm]; exact lays_k HCr.out hcm (.inl ⟨by omega, by omega, hk2⟩))
            clear hk2
            go_wp2_with fail
            refine Calls.mono (rshape_any (some ⟨cb, co, none⟩) m cap C _ (HRd.out.keep hK) HCok.out (by omega) _ _) ?_
            rintro e w11 ⟨rfl, kw11⟩
            have Kw11 := Keeps.trans hK kw11
            have Bw11_S := BL.keep hB1 kw11
            have Bw11_R := BL.keep hB2 kw11
            have zw11 := kw11.size
            have Sw11 := St.keep hS kw11
            clear l5 l6 c7 c8 c9 c10 hB1 hB2 hK
            have l12 := Bw11_S.lt
            have l13 := Bw11_R.lt
            have c14 : w11.cell? ⟨wa.heap.size, 0, none⟩ = some (.pointer (some ⟨ba, 0, none⟩)) := Bw11_S.c 0 _ rfl
            have c15 : w11.cell? ⟨wa.heap.size, 1, none⟩ = some (.pointer (some ⟨bt, 0, none⟩)) := Bw11_S.c 1 _ rfl
            rw [HEc.out]
            obtain ⟨r0, r1, d0, d1⟩ := sh_bd HCok.out HEc.out
            have hk32 := HKc.out
            have HW0 := Lib.hid (show shW C m ((c : Int) + 1) (LL q % 31) = 2 + shR C m ((c : Int) + 1) (LL q % 31) + shD C m ((c : Int) + 1) (LL q % 31) by unfold shW; rw [if_pos HEc.out])
            rw [HW0.out] at hk32
            have HLd := Lib.hid (fun f' hf1 hf2 hT => atT_laid (n := 4096) (f := f') (a := a) HCok.out h64 HEc.out hT hf1 hf2)
            rw [HW0.out] at HLd
            have HLy := Lib.hid (fun w' (h : St w' ba bw 4096 f bt A' m cap' C) hT => lay_yes ba bw 4096 f bt A' m cap' C w' h a ((c : Int) + 1) (LL q % 31) HEc.out hT)
            rw [HW0.out] at HLy
            have efin : ((c : Int) + 1 - 1).toNat = c := by omega
            rw [efin] at HLy HLd
            generalize hr : shR C m ((c : Int) + 1) (LL q % 31) = r at *
            generalize hd : shD C m ((c : Int) + 1) (LL q % 31) = d at *
            clear hr hd HW0 HKc efin hcb c0 c3 hkb
            have hth : thB 4096 a (2 + r + d) = true := thB_true.2 ⟨by omega, by omega, by omega, by omega⟩
            have HTH := Lib.hid hth
            clear hth
            go_wp2_with fail
            refine Calls.mono (HLy.out _ Sw11 HTH.out) ?_
            rintro e w9 ⟨rfl, s9, o9⟩
            have WA := WLoop.lay HCok.out (WLoop.keep HWL.out kw11) HLd.out HTH.out (by show (c : Int) + 1 ≠ 0; omega) (by omega) s9 o9 (by omega) (by omega) (by omega)
            have HWA := Lib.hid WA
            have HOBJ := Lib.hid (HLd.out (layF f a (2 + r + d) _ _) (layF_at (by omega)) layF_len HTH.out)
            have SA := WA.st
            have BA := WA.b1
            have BR := WA.b2
            have KA := WA.keeps
            clear WA s9 o9 HLy HLd HLast HT HO HTH HWL
            clear kw11
            have l16 := BA.lt
            have c17 : w9.cell? ⟨wa.heap.size, 0, none⟩ = some (.pointer (some ⟨ba, 0, none⟩)) := BA.c 0 _ rfl
            have c18 : w9.cell? ⟨wa.heap.size, 1, none⟩ = some (.pointer (some ⟨bt, 0, none⟩)) := BA.c 1 _ rfl
            go_wp2_with fail
            refine Calls.mono (oshape_any ba bw 4096 _ bt A' m cap' C _ SA a) ?_
            rintro e wb ⟨rfl, k2⟩
            have Kwb := Keeps.trans KA k2
            have Bwb_S := BL.keep BA k2
            have zwb := k2.size
            have Swb := St.keep SA k2
            clear l16 c17 c18 SA BA KA
            have l19 := Bwb_S.lt
            have c20 : wb.cell? ⟨wa.heap.size, 0, none⟩ = some (.pointer (some ⟨ba, 0, none⟩)) := Bwb_S.c 0 _ rfl
            have c21 : wb.cell? ⟨wa.heap.size, 1, none⟩ = some (.pointer (some ⟨bt, 0, none⟩)) := Bwb_S.c 1 _ rfl
            rw [HOBJ.out, objP_same (by rintro ⟨_, h⟩; dsimp only at h; omega)]
            have HWB := Lib.hid (HWA.out.keep k2)
            clear HWA k2
            go_wp2_with fail
            refine Calls.mono (ohead_any ba bw 4096 _ bt A' m cap' C _ Swb a) ?_
            rintro e wc ⟨rfl, k3⟩
            have Kwc := Keeps.trans Kwb k3
            have Bwc_S := BL.keep Bwb_S k3
            have zwc := k3.size
            have Swc := St.keep Swb k3
            clear l19 c20 c21 Swb Bwb_S Kwb
            have l22 := Bwc_S.lt
            have c23 : wc.cell? ⟨wa.heap.size, 0, none⟩ = some (.pointer (some ⟨ba, 0, none⟩)) := Bwc_S.c 0 _ rfl
            have c24 : wc.cell? ⟨wa.heap.size, 1, none⟩ = some (.pointer (some ⟨bt, 0, none⟩)) := Bwc_S.c 1 _ rfl
            rw [HOBJ.out, objP_same (by rintro ⟨_, h⟩; dsimp only at h; omega)]
            have HWC := Lib.hid (HWB.out.keep k3)
            clear HWB k3
            unfold hdV
            dsimp only
            go_wp2_with fail
            refine named_code (fun W25 hW25 => ?_)
            have KW25 : Keeps w W25 := by rw [hW25]; exact (Kwc.alloc _)
            have BW25_S : BL W25 (wa.heap.size) 26 [.pointer (some ⟨ba, 0, none⟩), .pointer (some ⟨bt, 0, none⟩)] := by rw [hW25]; exact (BL.alloc Bwc_S _)
            have BW25_H : BL W25 (wc.heap.size) 33 [.int .i64 ((c : Int) + 1), .int .i64 0, .int .i64 0, .bool false, .bool (C c).fin, .bool false] := by rw [hW25]; exact (BL.new1 _ _ _ [.int .i64 ((c : Int) + 1), .int .i64 0, .int .i64 0, .bool false, .bool (C c).fin, .bool false] _ (by simp) rfl)
            have kW25 : Keeps wc W25 := by rw [hW25]; exact ((Touch.refl _ _).alloc _)
            have zW25 : wc.heap.size + 1 ≤ W25.heap.size := by rw [hW25]; simp
            have SW25 := St.keep Swc (show Keeps wc W25 by rw [hW25]; exact ((Touch.refl _ _).alloc _))
            clear l22 c23 c24 Swc Bwc_S Kwc hW25
            have l26 := BW25_S.lt
            have l27 := BW25_H.lt
            have c28 : W25.cell? ⟨wc.heap.size, 0, none⟩ = some (.int .i64 ((c : Int) + 1)) := BW25_H.c 0 _ rfl
            have c29 : W25.cell? ⟨wc.heap.size, 1, none⟩ = some (.int .i64 0) := BW25_H.c 1 _ rfl
            have c30 : W25.cell? ⟨wc.heap.size, 2, none⟩ = some (.int .i64 0) := BW25_H.c 2 _ rfl
            have c31 : W25.cell? ⟨wc.heap.size, 3, none⟩ = some (.bool false) := BW25_H.c 3 _ rfl
            have c32 : W25.cell? ⟨wc.heap.size, 4, none⟩ = some (.bool (C c).fin) := BW25_H.c 4 _ rfl
            have c33 : W25.cell? ⟨wc.heap.size, 5, none⟩ = some (.bool false) := BW25_H.c 5 _ rfl
            have HWD := Lib.hid (HWC.out.keep kW25)
            clear HWC kW25
            obtain ⟨cb', co', ecb, _, _, _, c3⟩ := cl_cells (HRd.out.keep KW25) hcm
            cases ecb
            have g1 : IntKind.i64.wrap (2 + r) = 2 + r := IntWalk.i64_in _ ⟨by omega, by omega⟩
            have g2 : IntKind.i64.wrap (2 + r + d) = 2 + r + d := IntWalk.i64_in _ ⟨by omega, by omega⟩
            have i1 : (0 : Int) ≤ (c : Int) := by omega
            have i2 : (c : Int) < (m : Int) := by omega
            have i3 : IntKind.i64.wrap ((c : Int) + 1 - 1) = (c : Int) := by rw [Int.add_sub_cancel]; exact IntWalk.i64_in _ ⟨by omega, by omega⟩
            go_quiet (fail)
            clear c3 i1 i2 i3
            have HO9 := Lib.hid HWD.out.own
            have hlo9 := HWD.out.own.lt
            have HLo9 := Lib.hid hlo9
            clear hlo9
            have hln9 := HWD.out.len
            go_wp2_with (at_builtin; refine app_int ?_ (.tmp 151) (.tmp 153) ?_ W2.heap.size _ acc ((HO9.out.keep (Touch.drewN nq (Touch.refl _ _))).alloc _) ?_ W25.heap.size a ?_ (cell_new _ _ _ _ rfl) (by omega) (by have := HWD.out.bs; simp; omega) ?_; rfl; rfl; rfl; rfl; intro v' w' hown hgr hbl; have hWN := WLoop.grow HWD.out ((Touch.drewN nq (Touch.refl _ _)).alloc (.cells #[.int .i64 a] 3)) hown hgr (by simp; omega) (by omega) HBelow.out; have HWN := Lib.hid hWN; clear hWN hown hgr hbl HO9)
            go_roundw
            case rel => exact ⟨q + 1, a + (2 + r + d), 2 + r + d, acc ++ [a], _, by omega, by go_num, rfl, rfl, HWN.out⟩
            case measure => simp [intOf]; omega
          ·
            have hkb : ((C c).kind != 2) = true := by simpa using hk2
            have HEc := Lib.hid (show shE C m ((c : Int) + 1) 0 = 0 by rw [Int.add_comm]; exact lays_e HCr.out hcm (.inr rfl))
            have HKc := Lib.hid (show shW C m ((c : Int) + 1) 0 ≤ 32 by rw [Int.add_comm]; exact lays_k HCr.out hcm (.inr rfl))
            clear hk2
            go_wp2_with fail
            refine Calls.mono (rshape_any (some ⟨cb, co, none⟩) m cap C _ (HRd.out.keep hK) HCok.out (by omega) _ _) ?_
            rintro e w34 ⟨rfl, kw34⟩
            have Kw34 := Keeps.trans hK kw34
            have Bw34_S := BL.keep hB1 kw34
            have Bw34_R := BL.keep hB2 kw34
            have zw34 := kw34.size
            have Sw34 := St.keep hS kw34
            clear l5 l6 c7 c8 c9 c10 hB1 hB2 hK
            have l35 := Bw34_S.lt
            have l36 := Bw34_R.lt
            have c37 : w34.cell? ⟨wa.heap.size, 0, none⟩ = some (.pointer (some ⟨ba, 0, none⟩)) := Bw34_S.c 0 _ rfl
            have c38 : w34.cell? ⟨wa.heap.size, 1, none⟩ = some (.pointer (some ⟨bt, 0, none⟩)) := Bw34_S.c 1 _ rfl
            rw [HEc.out]
            obtain ⟨r0, r1, d0, d1⟩ := sh_bd HCok.out HEc.out
            have hk32 := HKc.out
            have HW0 := Lib.hid (show shW C m ((c : Int) + 1) 0 = 2 + shR C m ((c : Int) + 1) 0 + shD C m ((c : Int) + 1) 0 by unfold shW; rw [if_pos HEc.out])
            rw [HW0.out] at hk32
            have HLd := Lib.hid (fun f' hf1 hf2 hT => atT_laid (n := 4096) (f := f') (a := a) HCok.out h64 HEc.out hT hf1 hf2)
            rw [HW0.out] at HLd
            have HLy := Lib.hid (fun w' (h : St w' ba bw 4096 f bt A' m cap' C) hT => lay_yes ba bw 4096 f bt A' m cap' C w' h a ((c : Int) + 1) 0 HEc.out hT)
            rw [HW0.out] at HLy
            have efin : ((c : Int) + 1 - 1).toNat = c := by omega
            rw [efin] at HLy HLd
            generalize hr : shR C m ((c : Int) + 1) 0 = r at *
            generalize hd : shD C m ((c : Int) + 1) 0 = d at *
            clear hr hd HW0 HKc efin hcb c0 c3 hkb
            have hth : thB 4096 a (2 + r + d) = true := thB_true.2 ⟨by omega, by omega, by omega, by omega⟩
            have HTH := Lib.hid hth
            clear hth
            go_wp2_with fail
            refine Calls.mono (HLy.out _ Sw34 HTH.out) ?_
            rintro e w9 ⟨rfl, s9, o9⟩
            have WA := WLoop.lay HCok.out (WLoop.keep HWL.out kw34) HLd.out HTH.out (by show (c : Int) + 1 ≠ 0; omega) (by omega) s9 o9 (by omega) (by omega) (by omega)
            have HWA := Lib.hid WA
            have HOBJ := Lib.hid (HLd.out (layF f a (2 + r + d) _ _) (layF_at (by omega)) layF_len HTH.out)
            have SA := WA.st
            have BA := WA.b1
            have BR := WA.b2
            have KA := WA.keeps
            clear WA s9 o9 HLy HLd HLast HT HO HTH HWL
            clear kw34
            have l39 := BA.lt
            have c40 : w9.cell? ⟨wa.heap.size, 0, none⟩ = some (.pointer (some ⟨ba, 0, none⟩)) := BA.c 0 _ rfl
            have c41 : w9.cell? ⟨wa.heap.size, 1, none⟩ = some (.pointer (some ⟨bt, 0, none⟩)) := BA.c 1 _ rfl
            go_wp2_with fail
            refine Calls.mono (oshape_any ba bw 4096 _ bt A' m cap' C _ SA a) ?_
            rintro e wb ⟨rfl, k2⟩
            have Kwb := Keeps.trans KA k2
            have Bwb_S := BL.keep BA k2
            have zwb := k2.size
            have Swb := St.keep SA k2
            clear l39 c40 c41 SA BA KA
            have l42 := Bwb_S.lt
            have c43 : wb.cell? ⟨wa.heap.size, 0, none⟩ = some (.pointer (some ⟨ba, 0, none⟩)) := Bwb_S.c 0 _ rfl
            have c44 : wb.cell? ⟨wa.heap.size, 1, none⟩ = some (.pointer (some ⟨bt, 0, none⟩)) := Bwb_S.c 1 _ rfl
            rw [HOBJ.out, objP_same (by rintro ⟨_, h⟩; dsimp only at h; omega)]
            have HWB := Lib.hid (HWA.out.keep k2)
            clear HWA k2
            go_wp2_with fail
            refine Calls.mono (ohead_any ba bw 4096 _ bt A' m cap' C _ Swb a) ?_
            rintro e wc ⟨rfl, k3⟩
            have Kwc := Keeps.trans Kwb k3
            have Bwc_S := BL.keep Bwb_S k3
            have zwc := k3.size
            have Swc := St.keep Swb k3
            clear l42 c43 c44 Swb Bwb_S Kwb
            have l45 := Bwc_S.lt
            have c46 : wc.cell? ⟨wa.heap.size, 0, none⟩ = some (.pointer (some ⟨ba, 0, none⟩)) := Bwc_S.c 0 _ rfl
            have c47 : wc.cell? ⟨wa.heap.size, 1, none⟩ = some (.pointer (some ⟨bt, 0, none⟩)) := Bwc_S.c 1 _ rfl
            rw [HOBJ.out, objP_same (by rintro ⟨_, h⟩; dsimp only at h; omega)]
            have HWC := Lib.hid (HWB.out.keep k3)
            clear HWB k3
            unfold hdV
            dsimp only
            go_wp2_with fail
            refine named_code (fun W48 hW48 => ?_)
            have KW48 : Keeps w W48 := by rw [hW48]; exact (Kwc.alloc _)
            have BW48_S : BL W48 (wa.heap.size) 26 [.pointer (some ⟨ba, 0, none⟩), .pointer (some ⟨bt, 0, none⟩)] := by rw [hW48]; exact (BL.alloc Bwc_S _)
            have BW48_H : BL W48 (wc.heap.size) 33 [.int .i64 ((c : Int) + 1), .int .i64 0, .int .i64 0, .bool false, .bool (C c).fin, .bool false] := by rw [hW48]; exact (BL.new1 _ _ _ [.int .i64 ((c : Int) + 1), .int .i64 0, .int .i64 0, .bool false, .bool (C c).fin, .bool false] _ (by simp) rfl)
            have kW48 : Keeps wc W48 := by rw [hW48]; exact ((Touch.refl _ _).alloc _)
            have zW48 : wc.heap.size + 1 ≤ W48.heap.size := by rw [hW48]; simp
            have SW48 := St.keep Swc (show Keeps wc W48 by rw [hW48]; exact ((Touch.refl _ _).alloc _))
            clear l45 c46 c47 Swc Bwc_S Kwc hW48
            have l49 := BW48_S.lt
            have l50 := BW48_H.lt
            have c51 : W48.cell? ⟨wc.heap.size, 0, none⟩ = some (.int .i64 ((c : Int) + 1)) := BW48_H.c 0 _ rfl
            have c52 : W48.cell? ⟨wc.heap.size, 1, none⟩ = some (.int .i64 0) := BW48_H.c 1 _ rfl
            have c53 : W48.cell? ⟨wc.heap.size, 2, none⟩ = some (.int .i64 0) := BW48_H.c 2 _ rfl
            have c54 : W48.cell? ⟨wc.heap.size, 3, none⟩ = some (.bool false) := BW48_H.c 3 _ rfl
            have c55 : W48.cell? ⟨wc.heap.size, 4, none⟩ = some (.bool (C c).fin) := BW48_H.c 4 _ rfl
            have c56 : W48.cell? ⟨wc.heap.size, 5, none⟩ = some (.bool false) := BW48_H.c 5 _ rfl
            have HWD := Lib.hid (HWC.out.keep kW48)
            clear HWC kW48
            obtain ⟨cb', co', ecb, _, _, _, c3⟩ := cl_cells (HRd.out.keep KW48) hcm
            cases ecb
            have g1 : IntKind.i64.wrap (2 + r) = 2 + r := IntWalk.i64_in _ ⟨by omega, by omega⟩
            have g2 : IntKind.i64.wrap (2 + r + d) = 2 + r + d := IntWalk.i64_in _ ⟨by omega, by omega⟩
            have i1 : (0 : Int) ≤ (c : Int) := by omega
            have i2 : (c : Int) < (m : Int) := by omega
            have i3 : IntKind.i64.wrap ((c : Int) + 1 - 1) = (c : Int) := by rw [Int.add_sub_cancel]; exact IntWalk.i64_in _ ⟨by omega, by omega⟩
            go_quiet (fail)
            clear c3 i1 i2 i3
            have HO9 := Lib.hid HWD.out.own
            have hlo9 := HWD.out.own.lt
            have HLo9 := Lib.hid hlo9
            clear hlo9
            have hln9 := HWD.out.len
            go_wp2_with (at_builtin; refine app_int ?_ (.tmp 151) (.tmp 153) ?_ W2.heap.size _ acc ((HO9.out.keep (Touch.drewN nq (Touch.refl _ _))).alloc _) ?_ W48.heap.size a ?_ (cell_new _ _ _ _ rfl) (by omega) (by have := HWD.out.bs; simp; omega) ?_; rfl; rfl; rfl; rfl; intro v' w' hown hgr hbl; have hWN := WLoop.grow HWD.out ((Touch.drewN nq (Touch.refl _ _)).alloc (.cells #[.int .i64 a] 3)) hown hgr (by simp; omega) (by omega) HBelow.out; have HWN := Lib.hid hWN; clear hWN hown hgr hbl HO9)
            go_roundw
            case rel => exact ⟨q + 1, a + (2 + r + d), 2 + r + d, acc ++ [a], _, by omega, by go_num, rfl, rfl, HWN.out⟩
            case measure => simp [intOf]; omega
      ·
        have hql' : ¬ ((q : Int) < (nl : Int)) := by omega
        by_cases hn0 : KK q % ((m : Int) + 1) = 0
        ·
          clear e0 e1
          go_wp2_with fail
          have hth : thB 4096 a 1 = true := thB_true.2 ⟨by omega, by omega, by omega, by omega⟩
          refine Calls.mono (gap_any ba bw 4096 f bt A' m cap' C _ hS a 1 (by omega) hth) ?_
          rintro e w9 ⟨rfl, s9, o9⟩
          have WN := WLoop.gap HCok.out HWL.out hth (by omega) s9 o9 (by omega) (by omega) (by omega)
          have HWN := Lib.hid WN
          clear WN s9 o9 hth
          go_wp2_with fail
          go_roundw
          case rel => exact ⟨q + 1, a + 1, 1, acc, _, by omega, by go_num, rfl, rfl, HWN.out⟩
          case measure => simp [intOf]; omega
        ·
          obtain ⟨c, hc⟩ : ∃ c : Nat, KK q % ((m : Int) + 1) = (c : Int) + 1 := ⟨(KK q % ((m : Int) + 1) - 1).toNat, by omega⟩
          have hcm : c < m := by omega
          have hc0 : ((c : Int) + 1 == 0) = false := by simp; omega
          clear hn0 e0 e1
          obtain ⟨cb, co, rfl, c0, _, _, c3⟩ := cl_cells (HRd.out.keep hK) hcm
          have hcb : cb < wo.heap.size := block_lt_of_cell c0
          by_cases hk2 : (C c).kind = 2
          ·
            have hkb : ((C c).kind != 2) = false := by simpa using hk2
            have HEc := Lib.hid (show shE C m ((c : Int) + 1) 0 = 0 by rw [Int.add_comm]; exact lays_e HCr.out hcm (.inl ⟨by omega, by omega, hk2⟩))
            have HKc := Lib.hid (show shW C m ((c : Int) + 1) 0 ≤ 32 by rw [Int.add_comm]; exact lays_k HCr.out hcm (.inl ⟨by omega, by omega, hk2⟩))
            clear hk2
            go_wp2_with fail
            refine Calls.mono (rshape_any (some ⟨cb, co, none⟩) m cap C _ (HRd.out.keep hK) HCok.out (by omega) _ _) ?_
            rintro e w57 ⟨rfl, kw57⟩
            have Kw57 := Keeps.trans hK kw57
            have Bw57_S := BL.keep hB1 kw57
            have Bw57_R := BL.keep hB2 kw57
            have zw57 := kw57.size
            have Sw57 := St.keep hS kw57
            clear l5 l6 c7 c8 c9 c10 hB1 hB2 hK
            have l58 := Bw57_S.lt
            have l59 := Bw57_R.lt
            have c60 : w57.cell? ⟨wa.heap.size, 0, none⟩ = some (.pointer (some ⟨ba, 0, none⟩)) := Bw57_S.c 0 _ rfl
            have c61 : w57.cell? ⟨wa.heap.size, 1, none⟩ = some (.pointer (some ⟨bt, 0, none⟩)) := Bw57_S.c 1 _ rfl
            rw [HEc.out]
            obtain ⟨r0, r1, d0, d1⟩ := sh_bd HCok.out HEc.out
            have hk32 := HKc.out
            have HW0 := Lib.hid (show shW C m ((c : Int) + 1) 0 = 2 + shR C m ((c : Int) + 1) 0 + shD C m ((c : Int) + 1) 0 by unfold shW; rw [if_pos HEc.out])
            rw [HW0.out] at hk32
            have HLd := Lib.hid (fun f' hf1 hf2 hT => atT_laid (n := 4096) (f := f') (a := a) HCok.out h64 HEc.out hT hf1 hf2)
            rw [HW0.out] at HLd
            have HLy := Lib.hid (fun w' (h : St w' ba bw 4096 f bt A' m cap' C) hT => lay_yes ba bw 4096 f bt A' m cap' C w' h a ((c : Int) + 1) 0 HEc.out hT)
            rw [HW0.out] at HLy
            have efin : ((c : Int) + 1 - 1).toNat = c := by omega
            rw [efin] at HLy HLd
            generalize hr : shR C m ((c : Int) + 1) 0 = r at *
            generalize hd : shD C m ((c : Int) + 1) 0 = d at *
            clear hr hd HW0 HKc efin hcb c0 c3 hkb
            have hth : thB 4096 a (2 + r + d) = true := thB_true.2 ⟨by omega, by omega, by omega, by omega⟩
            have HTH := Lib.hid hth
            clear hth
            go_wp2_with fail
            refine Calls.mono (HLy.out _ Sw57 HTH.out) ?_
            rintro e w9 ⟨rfl, s9, o9⟩
            have WA := WLoop.lay HCok.out (WLoop.keep HWL.out kw57) HLd.out HTH.out (by show (c : Int) + 1 ≠ 0; omega) (by omega) s9 o9 (by omega) (by omega) (by omega)
            have HWA := Lib.hid WA
            have HOBJ := Lib.hid (HLd.out (layF f a (2 + r + d) _ _) (layF_at (by omega)) layF_len HTH.out)
            have SA := WA.st
            have BA := WA.b1
            have BR := WA.b2
            have KA := WA.keeps
            clear WA s9 o9 HLy HLd HLast HT HO HTH HWL
            clear kw57
            have l62 := BA.lt
            have c63 : w9.cell? ⟨wa.heap.size, 0, none⟩ = some (.pointer (some ⟨ba, 0, none⟩)) := BA.c 0 _ rfl
            have c64 : w9.cell? ⟨wa.heap.size, 1, none⟩ = some (.pointer (some ⟨bt, 0, none⟩)) := BA.c 1 _ rfl
            go_wp2_with fail
            refine Calls.mono (oshape_any ba bw 4096 _ bt A' m cap' C _ SA a) ?_
            rintro e wb ⟨rfl, k2⟩
            have Kwb := Keeps.trans KA k2
            have Bwb_S := BL.keep BA k2
            have zwb := k2.size
            have Swb := St.keep SA k2
            clear l62 c63 c64 SA BA KA
            have l65 := Bwb_S.lt
            have c66 : wb.cell? ⟨wa.heap.size, 0, none⟩ = some (.pointer (some ⟨ba, 0, none⟩)) := Bwb_S.c 0 _ rfl
            have c67 : wb.cell? ⟨wa.heap.size, 1, none⟩ = some (.pointer (some ⟨bt, 0, none⟩)) := Bwb_S.c 1 _ rfl
            rw [HOBJ.out, objP_same (by rintro ⟨_, h⟩; dsimp only at h; omega)]
            have HWB := Lib.hid (HWA.out.keep k2)
            clear HWA k2
            go_wp2_with fail
            refine Calls.mono (ohead_any ba bw 4096 _ bt A' m cap' C _ Swb a) ?_
            rintro e wc ⟨rfl, k3⟩
            have Kwc := Keeps.trans Kwb k3
            have Bwc_S := BL.keep Bwb_S k3
            have zwc := k3.size
            have Swc := St.keep Swb k3
            clear l65 c66 c67 Swb Bwb_S Kwb
            have l68 := Bwc_S.lt
            have c69 : wc.cell? ⟨wa.heap.size, 0, none⟩ = some (.pointer (some ⟨ba, 0, none⟩)) := Bwc_S.c 0 _ rfl
            have c70 : wc.cell? ⟨wa.heap.size, 1, none⟩ = some (.pointer (some ⟨bt, 0, none⟩)) := Bwc_S.c 1 _ rfl
            rw [HOBJ.out, objP_same (by rintro ⟨_, h⟩; dsimp only at h; omega)]
            have HWC := Lib.hid (HWB.out.keep k3)
            clear HWB k3
            unfold hdV
            dsimp only
            go_wp2_with fail
            refine named_code (fun W71 hW71 => ?_)
            have KW71 : Keeps w W71 := by rw [hW71]; exact (Kwc.alloc _)
            have BW71_S : BL W71 (wa.heap.size) 26 [.pointer (some ⟨ba, 0, none⟩), .pointer (some ⟨bt, 0, none⟩)] := by rw [hW71]; exact (BL.alloc Bwc_S _)
            have BW71_H : BL W71 (wc.heap.size) 33 [.int .i64 ((c : Int) + 1), .int .i64 0, .int .i64 0, .bool false, .bool (C c).fin, .bool false] := by rw [hW71]; exact (BL.new1 _ _ _ [.int .i64 ((c : Int) + 1), .int .i64 0, .int .i64 0, .bool false, .bool (C c).fin, .bool false] _ (by simp) rfl)
            have kW71 : Keeps wc W71 := by rw [hW71]; exact ((Touch.refl _ _).alloc _)
            have zW71 : wc.heap.size + 1 ≤ W71.heap.size := by rw [hW71]; simp
            have SW71 := St.keep Swc (show Keeps wc W71 by rw [hW71]; exact ((Touch.refl _ _).alloc _))
            clear l68 c69 c70 Swc Bwc_S Kwc hW71
            have l72 := BW71_S.lt
            have l73 := BW71_H.lt
            have c74 : W71.cell? ⟨wc.heap.size, 0, none⟩ = some (.int .i64 ((c : Int) + 1)) := BW71_H.c 0 _ rfl
            have c75 : W71.cell? ⟨wc.heap.size, 1, none⟩ = some (.int .i64 0) := BW71_H.c 1 _ rfl
            have c76 : W71.cell? ⟨wc.heap.size, 2, none⟩ = some (.int .i64 0) := BW71_H.c 2 _ rfl
            have c77 : W71.cell? ⟨wc.heap.size, 3, none⟩ = some (.bool false) := BW71_H.c 3 _ rfl
            have c78 : W71.cell? ⟨wc.heap.size, 4, none⟩ = some (.bool (C c).fin) := BW71_H.c 4 _ rfl
            have c79 : W71.cell? ⟨wc.heap.size, 5, none⟩ = some (.bool false) := BW71_H.c 5 _ rfl
            have HWD := Lib.hid (HWC.out.keep kW71)
            clear HWC kW71
            obtain ⟨cb', co', ecb, _, _, _, c3⟩ := cl_cells (HRd.out.keep KW71) hcm
            cases ecb
            have g1 : IntKind.i64.wrap (2 + r) = 2 + r := IntWalk.i64_in _ ⟨by omega, by omega⟩
            have g2 : IntKind.i64.wrap (2 + r + d) = 2 + r + d := IntWalk.i64_in _ ⟨by omega, by omega⟩
            have i1 : (0 : Int) ≤ (c : Int) := by omega
            have i2 : (c : Int) < (m : Int) := by omega
            have i3 : IntKind.i64.wrap ((c : Int) + 1 - 1) = (c : Int) := by rw [Int.add_sub_cancel]; exact IntWalk.i64_in _ ⟨by omega, by omega⟩
            go_quiet (fail)
            clear c3 i1 i2 i3
            have HO9 := Lib.hid HWD.out.own
            have hlo9 := HWD.out.own.lt
            have HLo9 := Lib.hid hlo9
            clear hlo9
            have hln9 := HWD.out.len
            go_wp2_with (at_builtin; refine app_int ?_ (.tmp 151) (.tmp 153) ?_ W2.heap.size _ acc ((HO9.out.keep (Touch.drewN nq (Touch.refl _ _))).alloc _) ?_ W71.heap.size a ?_ (cell_new _ _ _ _ rfl) (by omega) (by have := HWD.out.bs; simp; omega) ?_; rfl; rfl; rfl; rfl; intro v' w' hown hgr hbl; have hWN := WLoop.grow HWD.out ((Touch.drewN nq (Touch.refl _ _)).alloc (.cells #[.int .i64 a] 3)) hown hgr (by simp; omega) (by omega) HBelow.out; have HWN := Lib.hid hWN; clear hWN hown hgr hbl HO9)
            go_roundw
            case rel => exact ⟨q + 1, a + (2 + r + d), 2 + r + d, acc ++ [a], _, by omega, by go_num, rfl, rfl, HWN.out⟩
            case measure => simp [intOf]; omega
          ·
            have hkb : ((C c).kind != 2) = true := by simpa using hk2
            have HEc := Lib.hid (show shE C m ((c : Int) + 1) 0 = 0 by rw [Int.add_comm]; exact lays_e HCr.out hcm (.inr rfl))
            have HKc := Lib.hid (show shW C m ((c : Int) + 1) 0 ≤ 32 by rw [Int.add_comm]; exact lays_k HCr.out hcm (.inr rfl))
            clear hk2
            go_wp2_with fail
            refine Calls.mono (rshape_any (some ⟨cb, co, none⟩) m cap C _ (HRd.out.keep hK) HCok.out (by omega) _ _) ?_
            rintro e w80 ⟨rfl, kw80⟩
            have Kw80 := Keeps.trans hK kw80
            have Bw80_S := BL.keep hB1 kw80
            have Bw80_R := BL.keep hB2 kw80
            have zw80 := kw80.size
            have Sw80 := St.keep hS kw80
            clear l5 l6 c7 c8 c9 c10 hB1 hB2 hK
            have l81 := Bw80_S.lt
            have l82 := Bw80_R.lt
            have c83 : w80.cell? ⟨wa.heap.size, 0, none⟩ = some (.pointer (some ⟨ba, 0, none⟩)) := Bw80_S.c 0 _ rfl
            have c84 : w80.cell? ⟨wa.heap.size, 1, none⟩ = some (.pointer (some ⟨bt, 0, none⟩)) := Bw80_S.c 1 _ rfl
            rw [HEc.out]
            obtain ⟨r0, r1, d0, d1⟩ := sh_bd HCok.out HEc.out
            have hk32 := HKc.out
            have HW0 := Lib.hid (show shW C m ((c : Int) + 1) 0 = 2 + shR C m ((c : Int) + 1) 0 + shD C m ((c : Int) + 1) 0 by unfold shW; rw [if_pos HEc.out])
            rw [HW0.out] at hk32
            have HLd := Lib.hid (fun f' hf1 hf2 hT => atT_laid (n := 4096) (f := f') (a := a) HCok.out h64 HEc.out hT hf1 hf2)
            rw [HW0.out] at HLd
            have HLy := Lib.hid (fun w' (h : St w' ba bw 4096 f bt A' m cap' C) hT => lay_yes ba bw 4096 f bt A' m cap' C w' h a ((c : Int) + 1) 0 HEc.out hT)
            rw [HW0.out] at HLy
            have efin : ((c : Int) + 1 - 1).toNat = c := by omega
            rw [efin] at HLy HLd
            generalize hr : shR C m ((c : Int) + 1) 0 = r at *
            generalize hd : shD C m ((c : Int) + 1) 0 = d at *
            clear hr hd HW0 HKc efin hcb c0 c3 hkb
            have hth : thB 4096 a (2 + r + d) = true := thB_true.2 ⟨by omega, by omega, by omega, by omega⟩
            have HTH := Lib.hid hth
            clear hth
            go_wp2_with fail
            refine Calls.mono (HLy.out _ Sw80 HTH.out) ?_
            rintro e w9 ⟨rfl, s9, o9⟩
            have WA := WLoop.lay HCok.out (WLoop.keep HWL.out kw80) HLd.out HTH.out (by show (c : Int) + 1 ≠ 0; omega) (by omega) s9 o9 (by omega) (by omega) (by omega)
            have HWA := Lib.hid WA
            have HOBJ := Lib.hid (HLd.out (layF f a (2 + r + d) _ _) (layF_at (by omega)) layF_len HTH.out)
            have SA := WA.st
            have BA := WA.b1
            have BR := WA.b2
            have KA := WA.keeps
            clear WA s9 o9 HLy HLd HLast HT HO HTH HWL
            clear kw80
            have l85 := BA.lt
            have c86 : w9.cell? ⟨wa.heap.size, 0, none⟩ = some (.pointer (some ⟨ba, 0, none⟩)) := BA.c 0 _ rfl
            have c87 : w9.cell? ⟨wa.heap.size, 1, none⟩ = some (.pointer (some ⟨bt, 0, none⟩)) := BA.c 1 _ rfl
            go_wp2_with fail
            refine Calls.mono (oshape_any ba bw 4096 _ bt A' m cap' C _ SA a) ?_
            rintro e wb ⟨rfl, k2⟩
            have Kwb := Keeps.trans KA k2
            have Bwb_S := BL.keep BA k2
            have zwb := k2.size
            have Swb := St.keep SA k2
            clear l85 c86 c87 SA BA KA
            have l88 := Bwb_S.lt
            have c89 : wb.cell? ⟨wa.heap.size, 0, none⟩ = some (.pointer (some ⟨ba, 0, none⟩)) := Bwb_S.c 0 _ rfl
            have c90 : wb.cell? ⟨wa.heap.size, 1, none⟩ = some (.pointer (some ⟨bt, 0, none⟩)) := Bwb_S.c 1 _ rfl
            rw [HOBJ.out, objP_same (by rintro ⟨_, h⟩; dsimp only at h; omega)]
            have HWB := Lib.hid (HWA.out.keep k2)
            clear HWA k2
            go_wp2_with fail
            refine Calls.mono (ohead_any ba bw 4096 _ bt A' m cap' C _ Swb a) ?_
            rintro e wc ⟨rfl, k3⟩
            have Kwc := Keeps.trans Kwb k3
            have Bwc_S := BL.keep Bwb_S k3
            have zwc := k3.size
            have Swc := St.keep Swb k3
            clear l88 c89 c90 Swb Bwb_S Kwb
            have l91 := Bwc_S.lt
            have c92 : wc.cell? ⟨wa.heap.size, 0, none⟩ = some (.pointer (some ⟨ba, 0, none⟩)) := Bwc_S.c 0 _ rfl
            have c93 : wc.cell? ⟨wa.heap.size, 1, none⟩ = some (.pointer (some ⟨bt, 0, none⟩)) := Bwc_S.c 1 _ rfl
            rw [HOBJ.out, objP_same (by rintro ⟨_, h⟩; dsimp only at h; omega)]
            have HWC := Lib.hid (HWB.out.keep k3)
            clear HWB k3
            unfold hdV
            dsimp only
            go_wp2_with fail
            refine named_code (fun W94 hW94 => ?_)
            have KW94 : Keeps w W94 := by rw [hW94]; exact (Kwc.alloc _)
            have BW94_S : BL W94 (wa.heap.size) 26 [.pointer (some ⟨ba, 0, none⟩), .pointer (some ⟨bt, 0, none⟩)] := by rw [hW94]; exact (BL.alloc Bwc_S _)
            have BW94_H : BL W94 (wc.heap.size) 33 [.int .i64 ((c : Int) + 1), .int .i64 0, .int .i64 0, .bool false, .bool (C c).fin, .bool false] := by rw [hW94]; exact (BL.new1 _ _ _ [.int .i64 ((c : Int) + 1), .int .i64 0, .int .i64 0, .bool false, .bool (C c).fin, .bool false] _ (by simp) rfl)
            have kW94 : Keeps wc W94 := by rw [hW94]; exact ((Touch.refl _ _).alloc _)
            have zW94 : wc.heap.size + 1 ≤ W94.heap.size := by rw [hW94]; simp
            have SW94 := St.keep Swc (show Keeps wc W94 by rw [hW94]; exact ((Touch.refl _ _).alloc _))
            clear l91 c92 c93 Swc Bwc_S Kwc hW94
            have l95 := BW94_S.lt
            have l96 := BW94_H.lt
            have c97 : W94.cell? ⟨wc.heap.size, 0, none⟩ = some (.int .i64 ((c : Int) + 1)) := BW94_H.c 0 _ rfl
            have c98 : W94.cell? ⟨wc.heap.size, 1, none⟩ = some (.int .i64 0) := BW94_H.c 1 _ rfl
            have c99 : W94.cell? ⟨wc.heap.size, 2, none⟩ = some (.int .i64 0) := BW94_H.c 2 _ rfl
            have c100 : W94.cell? ⟨wc.heap.size, 3, none⟩ = some (.bool false) := BW94_H.c 3 _ rfl
            have c101 : W94.cell? ⟨wc.heap.size, 4, none⟩ = some (.bool (C c).fin) := BW94_H.c 4 _ rfl
            have c102 : W94.cell? ⟨wc.heap.size, 5, none⟩ = some (.bool false) := BW94_H.c 5 _ rfl
            have HWD := Lib.hid (HWC.out.keep kW94)
            clear HWC kW94
            obtain ⟨cb', co', ecb, _, _, _, c3⟩ := cl_cells (HRd.out.keep KW94) hcm
            cases ecb
            have g1 : IntKind.i64.wrap (2 + r) = 2 + r := IntWalk.i64_in _ ⟨by omega, by omega⟩
            have g2 : IntKind.i64.wrap (2 + r + d) = 2 + r + d := IntWalk.i64_in _ ⟨by omega, by omega⟩
            have i1 : (0 : Int) ≤ (c : Int) := by omega
            have i2 : (c : Int) < (m : Int) := by omega
            have i3 : IntKind.i64.wrap ((c : Int) + 1 - 1) = (c : Int) := by rw [Int.add_sub_cancel]; exact IntWalk.i64_in _ ⟨by omega, by omega⟩
            go_quiet (fail)
            clear c3 i1 i2 i3
            have HO9 := Lib.hid HWD.out.own
            have hlo9 := HWD.out.own.lt
            have HLo9 := Lib.hid hlo9
            clear hlo9
            have hln9 := HWD.out.len
            go_wp2_with (at_builtin; refine app_int ?_ (.tmp 151) (.tmp 153) ?_ W2.heap.size _ acc ((HO9.out.keep (Touch.drewN nq (Touch.refl _ _))).alloc _) ?_ W94.heap.size a ?_ (cell_new _ _ _ _ rfl) (by omega) (by have := HWD.out.bs; simp; omega) ?_; rfl; rfl; rfl; rfl; intro v' w' hown hgr hbl; have hWN := WLoop.grow HWD.out ((Touch.drewN nq (Touch.refl _ _)).alloc (.cells #[.int .i64 a] 3)) hown hgr (by simp; omega) (by omega) HBelow.out; have HWN := Lib.hid hWN; clear hWN hown hgr hbl HO9)
            go_roundw
            case rel => exact ⟨q + 1, a + (2 + r + d), 2 + r + d, acc ++ [a], _, by omega, by go_num, rfl, rfl, HWN.out⟩
            case measure => simp [intOf]; omega
    ·
      have hge : ¬ ((q : Int) < (nk : Int)) := by omega
      clear HWL hlt
      have l103 := hB1.lt
      have l104 := hB2.lt
      have c105 : wo.cell? ⟨wa.heap.size, 0, none⟩ = some (.pointer (some ⟨ba, 0, none⟩)) := hB1.c 0 _ rfl
      have c106 : wo.cell? ⟨wa.heap.size, 1, none⟩ = some (.pointer (some ⟨bt, 0, none⟩)) := hB1.c 1 _ rfl
      go_wp2_with fail
      refine Calls.mono (walk_any ba bw 4096 f bt A' m cap' C _ hS 1 a ⟨by omega, by omega⟩) ?_
      rintro e wd ⟨v1, L1, x1, rfl, hW1, hO1, k1⟩
      have Kwd := Keeps.trans hK k1
      have Bwd_S := BL.keep hB1 k1
      have Bwd_R := BL.keep hB2 k1
      have zwd := k1.size
      have Swd := St.keep hS k1
      clear l103 l104 c105 c106 hS hB1 hB2 hK
      have l107 := Bwd_S.lt
      have l108 := Bwd_R.lt
      have c109 : wd.cell? ⟨wa.heap.size, 0, none⟩ = some (.pointer (some ⟨ba, 0, none⟩)) := Bwd_S.c 0 _ rfl
      have c110 : wd.cell? ⟨wa.heap.size, 1, none⟩ = some (.pointer (some ⟨bt, 0, none⟩)) := Bwd_S.c 1 _ rfl
      obtain ⟨rfl, rfl⟩ := hW1.det HT.out.walk
      have HO1 := Lib.hid hO1
      have HOa := Lib.hid (HO.out.keep k1)
      clear hW1 hO1 k1
      go_wp2_with fail
      refine Calls.mono (walk_any ba bw 4096 f bt A' m cap' C _ Swd 1 (a - 1) ⟨by omega, by omega⟩) ?_
      rintro e we ⟨v2, L2, x2, rfl, hW2, hO2, k2⟩
      have Kwe := Keeps.trans Kwd k2
      have Bwe_S := BL.keep Bwd_S k2
      have Bwe_R := BL.keep Bwd_R k2
      have zwe := k2.size
      have Swe := St.keep Swd k2
      clear l107 l108 c109 c110 Swd Bwd_S Bwd_R Kwd
      have l111 := Bwe_S.lt
      have l112 := Bwe_R.lt
      have hx := walks_last HLast.out hW2
      have HO2 := Lib.hid (HO1.out.keep k2)
      have HOb := Lib.hid (HOa.out.keep k2)
      clear hW2 hO2 k2 HO1 HOa
      obtain ⟨ad1, cp1, e1⟩ := HO2.out.form
      obtain ⟨ad2, cp2, e2⟩ := HOb.out.form
      have R1 := (show OwnInts _ _ (.slice ad1 _ cp1) _ from e1 ▸ HO2.out).rd.1
      have R2 := (show OwnInts _ _ (.slice ad2 _ cp2) _ from e2 ▸ HOb.out).rd.1
      subst e1
      subst e2
      have hl60 : L1.length ≤ 60 := by omega
      have hSm := same_any ad1 ad2 _ _ cp1 cp2 _ _ _ R1 R2 (by omega) (by omega)
      rw [sameB_true (fun i _ => rfl)] at hSm
      have HSm := Lib.hid hSm
      clear R1 R2 hSm hl60 hlen
      rcases hx with ⟨rfl, hs⟩ | ⟨rfl, hs⟩
      ·
        go_wp2_with fail
        refine Calls.mono (HSm.out) ?_
        rintro e w113 ⟨rfl, kw113⟩
        have Kw113 := Keeps.trans Kwe kw113
        have Bw113_S := BL.keep Bwe_S kw113
        have Bw113_R := BL.keep Bwe_R kw113
        have zw113 := kw113.size
        have Sw113 := St.keep Swe kw113
        clear l111 l112 Swe Bwe_S Bwe_R Kwe kw113
        have l114 := Bw113_S.lt
        have l115 := Bw113_R.lt
        go_wp2_with fail
        go_ret
        exact ⟨rfl, Kw113⟩
      ·
        go_wp2_with fail
        refine Calls.mono (HSm.out) ?_
        rintro e w116 ⟨rfl, kw116⟩
        have Kw116 := Keeps.trans Kwe kw116
        have Bw116_S := BL.keep Bwe_S kw116
        have Bw116_R := BL.keep Bwe_R kw116
        have zw116 := kw116.size
        have Sw116 := St.keep Swe kw116
        clear l111 l112 Swe Bwe_S Bwe_R Kwe kw116
        have l117 := Bw116_S.lt
        have l118 := Bw116_R.lt
        go_wp2_with fail
        go_ret
        have h' : ¬ 1 < sz := by omega
        have hd' : (!decide (1 < sz)) = true := by rw [decide_eq_false h']; rfl
        exact ⟨congrArg (fun b => Ending.returned (.bool b)) hd', Kw116⟩
theorem owalks_walk (w : World) (A : Option Addr) (m cap : Nat) (hA : A = none → m = 0 ∧ cap = 0) (C : Nat → Cl) (hr : Rd w A (m * 4) (clF C)) (AK : Option Addr) (nk ck : Nat) (KK : Nat → Int) (hK : Rd w AK nk (intF .u8 KK)) (bK : ∀ j, j < nk → 0 ≤ KK j ∧ KK j ≤ 255) (AL : Option Addr) (nl cl : Nat) (LL : Nat → Int) (hL : Rd w AL nl (intF .u8 LL)) (bL : ∀ j, j < nl → 0 ≤ LL j ∧ LL j ≤ 255) : Calls Try.prog 7 #[.slice A m cap, .slice AK nk ck, .slice AL nl cl] w fun e w' => e = .returned (.bool true) ∧ Keeps w w' := by
  by_cases s1 : nk ≤ 60
  · by_cases s2 : nl ≤ 200
    · by_cases h1 : 100 < m
      · exact owalks_full w A m cap hA C hr AK nk ck KK hK bK AL nl cl LL hL bL s1 s2 h1
      · by_cases h2 : newE C m = 0
        · exact owalks_walk1 w A m cap hA C hr AK nk ck KK hK bK AL nl cl LL hL bL s1 s2 h2 (by omega)
        · exact owalks_bad w A m cap hA C hr AK nk ck KK hK bK AL nl cl LL hL bL s1 s2 ⟨by omega, h2⟩
    · exact owalks_longl w A m cap hA C hr AK nk ck KK hK bK AL nl cl LL hL bL (by omega) s1
  · exact owalks_longk w A m cap hA C hr AK nk ck KK hK bK AL nl cl LL hL bL (by omega)


end Go.Proofs.Ytnijlddmbemnoaa
