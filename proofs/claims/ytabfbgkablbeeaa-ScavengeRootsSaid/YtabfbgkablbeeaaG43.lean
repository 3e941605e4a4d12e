/- Layer 15's awake: what its small world comes to. -/
import Derived.Test.YtabfbgkablbeeaaG42
import Derived.Test.YtabfbgkablbeeaaG21
import Derived.Test.YtabfbgkablbeeaaG41
set_option linter.all false

namespace Go.Proofs.Ytabfbgkablbeeaa
open Go.RowKit

theorem WArg.keep {w w' : World} {Ac : Option Addr} {m cc : Nat} {C : Nat → Cl} {Th : Option Addr} {nt : Nat} {T : Nat → Tg} {Rf : Option Addr} {nr : Nat} {R : Nat → Int} {Ro : Option Addr} {nz : Nat} {Z : Nat → Int} {s0 s1 : Int} (h : WArg w Ac m cc C Th nt T Rf nr R Ro nz Z s0 s1) (k : Keeps w w') : WArg w' Ac m cc C Th nt T Rf nr R Ro nz Z s0 s1 :=
  ⟨h.cls.keep k, h.cn, h.cl, h.ths.keep k, h.thok, h.tl, h.refs.keep k, h.rok, h.rl, h.roots.keep k, h.zok, h.zl, h.s0, h.s1⟩
theorem wd15_ok {m : Nat} {C : Nat → Cl} {nt nr nz : Nat} {T : Nat → Tg} {R : Nat → Int} {s0 : Int} (hg : Good15 m C nt nr nz) (hT : ∀ i, i < nt → (T i).ok) : LwOk 1000 m C (beg15 (s0 % 101)) (end15 (s0 % 101)) (wd15 m C nt T nr R s0) ∧ (wd15 m C nt T nr R s0).t 3 = 601 + s0 % 101 ∧ (wd15 m C nt T nr R s0).at_.length ≤ 60 := by
  obtain ⟨h1, h2, h3, h4, h5, h6⟩ := hg
  have hx : 0 ≤ s0 % 101 ∧ s0 % 101 ≤ 100 := by omega
  have h := LwOk.layN_le (fun j hj => rgB_ok (h6 j hj)) h4 (show m < 64 by omega) hx (fun i hi => (hT i hi).2.2.2) nt (Nat.le_refl _)
  obtain ⟨e1, e2, e3⟩ := refN_t (n := 1000) (m := m) (C := C) (R := rgF R) (s := layN C m (s0 % 101) T nt) nr
  refine ⟨h.refN nr, ?_, ?_⟩
  · unfold wd15; rw [e1]; exact layN_t3 nt
  · unfold wd15; rw [e3]; have := layN_len (m := m) (C := C) (half := s0 % 101) (T := T) nt; omega
section
variable {w w' : World} {xb ba bw bt : Nat} {A : Option Addr} {m cap : Nat} {C : Nat → Cl} {av rov : Value} {tb mb vb : Nat} {s : Lw} {rl : List Int} {D : Nat → Bool} {base : Nat}
theorem Made.keep (H : Made w w' xb ba bw bt A m cap C av rov tb mb vb s rl D base) {w2 : World} (k : Keeps w' w2) : Made w w2 xb ba bw bt A m cap C av rov tb mb vb s rl D base :=
  ⟨H.pl, H.st.keep k, H.at_.keep k, H.roots.keep k, H.cd.keep k, H.dirty, by have := k.size; have := H.z; omega⟩
/-- What a run asks, but the roots. -/
theorem Made.run_ (H : Made w w' xb ba bw bt A m cap C av rov tb mb vb s rl D base) {x thr : Int} (ok : LwOk 1000 m C (beg15 x) (end15 x) s) (h3 : s.t 3 = 601 + x) (hx : 0 ≤ x ∧ x ≤ 100) (ht : 0 ≤ thr ∧ thr ≤ 7) (hm : 0 < m)
    {ra : Option Addr} {rc : Nat} {rl' : List Int} (hra : Rd w' ra rl'.length (intF .i64 fun j => rl'.getD j 0)) (hrl : rl'.length ≤ 1000) (hrt : ∀ x, x ∈ rl' → x = 0 ∨ x ∈ s.at_) (hrb : ∀ b off, ra = some ⟨b, off, none⟩ → b ≠ bw ∧ b < w'.heap.size) (y : Nat → Sp) (hy : y = s.sp (beg15 x) (end15 x)) :
    Calls Try.prog 7 #[.pointer (some ⟨ba, 0, none⟩), .pointer (some ⟨bt, 0, none⟩), .agg #[.int .i64 (y 0).f, .int .i64 (y 0).t, .int .i64 (y 0).e, .int .i64 (y 1).f, .int .i64 (y 1).t, .int .i64 (y 1).e, .int .i64 (y 2).f, .int .i64 (y 2).t, .int .i64 (y 2).e, .int .i64 (y 3).f, .int .i64 (y 3).t, .int .i64 (y 3).e, .int .i64 thr], .slice ra rl'.length rc, .pointer (some ⟨tb, 0, none⟩)] w' (RunOut 1000 m C s.f y s.g thr rl' ba bw bt A cap tb mb vb w') := by
  subst hy
  have p1 := H.pl.nw
  have p2 := H.pl.nv
  exact run_any ok.hw H.st hm (LwOk.toOk hx h3 (m := m) (C := C)) (LwOk.rightY ok hx h3 ht) hra hrl (fun x hx => (hrt x hx).imp_right (ok.mem x).1) hrb H.cd ⟨fun e => p1.2.1 e.symm, fun e => p1.2.2.1 e.symm, fun e => p1.2.2.2 e.symm⟩ ⟨p2.1, fun e => p1.2.2.2 e.symm, p2.2.1, fun b off e => (H.pl.A b off e).2.2.2.2⟩ (by show end15 x 0 ≤ 401; unfold end15; simp) (H.dirty.run ok hx.1)
theorem Made.run (H : Made w w' xb ba bw bt A m cap C av rov tb mb vb s rl D base) {x thr : Int} (ok : LwOk 1000 m C (beg15 x) (end15 x) s) (h3 : s.t 3 = 601 + x) (hx : 0 ≤ x ∧ x ≤ 100) (ht : 0 ≤ thr ∧ thr ≤ 7) (hm : 0 < m)
    {ra : Option Addr} {rc : Nat} (hrov : rov = .slice ra rl.length rc) (hrl : rl.length ≤ 1000) (hrt : ∀ x, x ∈ rl → x = 0 ∨ x ∈ s.at_) (y : Nat → Sp) (hy : y = s.sp (beg15 x) (end15 x)) :
    Calls Try.prog 7 #[.pointer (some ⟨ba, 0, none⟩), .pointer (some ⟨bt, 0, none⟩), .agg #[.int .i64 (y 0).f, .int .i64 (y 0).t, .int .i64 (y 0).e, .int .i64 (y 1).f, .int .i64 (y 1).t, .int .i64 (y 1).e, .int .i64 (y 2).f, .int .i64 (y 2).t, .int .i64 (y 2).e, .int .i64 (y 3).f, .int .i64 (y 3).t, .int .i64 (y 3).e, .int .i64 thr], .slice ra rl.length rc, .pointer (some ⟨tb, 0, none⟩)] w' (RunOut 1000 m C s.f y s.g thr rl ba bw bt A cap tb mb vb w') := by
  have hr := H.roots
  rw [hrov] at hr
  have hlo := hr.lt
  have p := H.pl.hi
  exact H.run_ ok h3 hx ht hm hr.rd.1 hrl hrt (fun b off e => by
    subst e
    have h2 := hr.rd.2 b off rfl
    omega) y hy
theorem Made.run0 (H : Made w w' xb ba bw bt A m cap C av rov tb mb vb s rl D base) {x thr : Int} (ok : LwOk 1000 m C (beg15 x) (end15 x) s) (h3 : s.t 3 = 601 + x) (hx : 0 ≤ x ∧ x ≤ 100) (ht : 0 ≤ thr ∧ thr ≤ 7) (hm : 0 < m) (y : Nat → Sp) (hy : y = s.sp (beg15 x) (end15 x)) :
    Calls Try.prog 7 #[.pointer (some ⟨ba, 0, none⟩), .pointer (some ⟨bt, 0, none⟩), .agg #[.int .i64 (y 0).f, .int .i64 (y 0).t, .int .i64 (y 0).e, .int .i64 (y 1).f, .int .i64 (y 1).t, .int .i64 (y 1).e, .int .i64 (y 2).f, .int .i64 (y 2).t, .int .i64 (y 2).e, .int .i64 (y 3).f, .int .i64 (y 3).t, .int .i64 (y 3).e, .int .i64 thr], .slice none 0 0, .pointer (some ⟨tb, 0, none⟩)] w' (RunOut 1000 m C s.f y s.g thr [] ba bw bt A cap tb mb vb w') :=
  H.run_ ok h3 hx ht hm (rl' := []) (fun h => absurd h (by show ¬ (0 < 0); omega)) (by show 0 ≤ 1000; omega) (fun x hx => by cases hx) (fun b off e => by cases e) y hy
end

end Go.Proofs.Ytabfbgkablbeeaa

namespace Go.Proofs.Ytabfbgkablbeeaa
open Go.RowKit

theorem ScR.stand {n m : Nat} {C : Nat → Cl} {yg : Int → Bool} {thr : Int} {a b : Int} {s s' : Sc} (h : ScR n m C yg thr a b s s') (h1 : ¬ a < s.tt.t) (h2 : ¬ b < s.od.t) : s' = s := by
  cases h with
  | to_ h _ => exact absurd h h1
  | old_ _ h _ => exact absurd h h2
  | done => rfl
theorem run_none {n m : Nat} {C : Nat → Cl} {f : Nat → Int} {yg : Int → Bool} {thr : Int} {T0 O0 : Sp} {s : Sc} {out : List Int} (h : RunScv n m C f yg thr T0 O0 [] [] s out) (hT : T0.t = T0.f) : s = ⟨f, T0, O0⟩ ∧ out = [] :=
  ⟨ScR.stand h.2 (by show ¬ T0.f < T0.t; omega) (by show ¬ O0.t < O0.t; omega), h.1⟩

end Go.Proofs.Ytabfbgkablbeeaa

namespace Go.Proofs.Ytabfbgkablbeeaa
open Go.RowKit

def awC : Nat → Cl := fun _ => ⟨1, 0, 1, false⟩
def awT : Nat → Tg := fun _ => ⟨0, 0, 0, 7⟩
def awW : Lw := wd15 1 awC 1 awT 0 (fun _ => 0) 50
def awY : Nat → Sp := awW.sp (beg15 (50 % 101)) (end15 (50 % 101))
theorem aw_good : Good15 1 awC 1 0 1 := ⟨by decide, by decide, by decide, by decide, by decide, fun j hj => rfl⟩
theorem awC_ok : ∀ j, j < 1 → (awC j).ok := fun j _ => rgB_ok rfl
theorem aw_ok : LwOk 1000 1 awC (beg15 (50 % 101)) (end15 (50 % 101)) awW := (LwOk.layN awC_ok (by decide) (by decide) (by decide) (T := awT) (fun _ => ⟨by show (0 : Int) ≤ 7; decide, by show (7 : Int) ≤ 255; decide⟩) 1).refN (R := rgF fun _ => 0) 0
theorem aw_roots : rootsN awW (fun _ => 1) 1 = [401] := by kernel_rfl
theorem aw_g0 : awW.g 0 = [] := by kernel_rfl
theorem aw_g1 : awW.g 1 = [401] := by kernel_rfl
theorem aw_g2 : awW.g 2 = [] := by kernel_rfl
theorem aw_t : (awY 0).t = 1 ∧ (awY 1).t = 404 ∧ (awY 2).t = 601 ∧ (awY 3).t = 651 := ⟨by kernel_rfl, by kernel_rfl, by kernel_rfl, by kernel_rfl⟩
def awS : Sc := (mvL (mvd 1000 1 awC (ygB (awY 1) (awY 2)) 1) [401] ⟨frF awW.f [401], awY 3, awY 0⟩).1
def awS1 : Sc × Int := scn 1000 1 awC (ygB (awY 1) (awY 2)) 1 awS 651
theorem aw_out : (mvL (mvd 1000 1 awC (ygB (awY 1) (awY 2)) 1) [401] ⟨frF awW.f [401], awY 3, awY 0⟩).2 = [651] := by kernel_rfl
theorem aw_tt : awS.tt.t = 654 := by kernel_rfl
theorem aw_s1 : awS1.2 = 654 ∧ awS1.1.tt = ⟨651, 654, 701⟩ ∧ awS1.1.od.t = 1 := ⟨by kernel_rfl, by kernel_rfl, by kernel_rfl⟩
theorem ScR.once {n m : Nat} {C : Nat → Cl} {yg : Int → Bool} {thr : Int} {a b : Int} {s s' : Sc} (h : ScR n m C yg thr a b s s') (h0 : a < s.tt.t) (h1 : ¬ (scn n m C yg thr s a).2 < (scn n m C yg thr s a).1.tt.t) (h2 : ¬ b < (scn n m C yg thr s a).1.od.t) : s' = (scn n m C yg thr s a).1 := by
  cases h with
  | to_ _ h => exact ScR.stand h h1 h2
  | old_ h _ _ => exact absurd h0 h
  | done h _ => exact absurd h0 h
theorem aw_run {s' : Sc} {out : List Int} (h : RunScv 1000 1 awC (frF awW.f (awW.g 1 ++ awW.g 2)) (ygB (awY 1) (awY 2)) 1 (awY 3) (awY 0) (awW.g 0) (rootsN awW (fun _ => 1) 1) s' out) : out = [651] ∧ s'.tt = ⟨651, 654, 701⟩ := by
  rw [aw_g0, aw_g1, aw_g2, aw_roots] at h
  have h1 : out = _ := h.out.trans aw_out
  have h2 : ScR 1000 1 awC (ygB (awY 1) (awY 2)) 1 651 1 awS s' := h.scan
  have e := ScR.once h2 (by rw [aw_tt]; decide) (by show ¬ awS1.2 < awS1.1.tt.t; rw [aw_s1.1, aw_s1.2.1]; decide) (by show ¬ (1 : Int) < awS1.1.od.t; rw [aw_s1.2.2]; decide)
  have e' : s' = awS1.1 := e
  rw [e']
  exact ⟨h1, aw_s1.2.1⟩
theorem aw_used : ¬ (awY 0).e - (awY 0).t < usedY awY := by
  have : usedY awY = 3 := by kernel_rfl
  have e : (awY 0).e - (awY 0).t = 400 := by kernel_rfl
  omega
theorem aw_y : ∀ j, (awY j).f = beg15 50 j := fun j => rfl

end Go.Proofs.Ytabfbgkablbeeaa
