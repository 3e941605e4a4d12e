/- Layer 15's made: what holds in between. -/
import Derived.Test.YtabfbgkablbeeaaG38
import Derived.Test.YtabfbgkablbeeaaG40
set_option linter.all false

namespace Go.Proofs.Ytabfbgkablbeeaa
open Go.RowKit

def zeroLife : List Value := [.pointer none, .pointer none, .pointer none, .pointer none, .int .i64 0, .int .i64 0, .int .i64 0, .int .i64 0, .int .i64 0, .int .i64 0, .int .i64 0, .int .i64 0, .int .i64 0, .int .i64 0, .int .i64 0, .int .i64 0, .int .i64 0, .slice none 0 0, .slice none 0 0, .pointer none, .slice none 0 0]
def worldV (Ac : Option Addr) (m cc : Nat) (Th : Option Addr) (nt tc : Nat) (Rf : Option Addr) (nr rc : Nat) (Ro : Option Addr) (nz zc : Nat) (s0 s1 : Int) : List Value := [.slice Ac m cc, .slice Th nt tc, .slice Rf nr rc, .slice Ro nz zc, .int .u8 s0, .int .u8 s1]
theorem sz_life : (Try.prog.info? 42).map (·.size) = some 21 := by kernel_rfl
theorem zero_life (w : World) : (zeroValue 42).run Try.prog w = .ok (.agg #[.pointer none, .pointer none, .pointer none, .pointer none, .int .i64 0, .int .i64 0, .int .i64 0, .int .i64 0, .int .i64 0, .int .i64 0, .int .i64 0, .int .i64 0, .int .i64 0, .int .i64 0, .int .i64 0, .int .i64 0, .int .i64 0, .slice none 0 0, .slice none 0 0, .pointer none, .slice none 0 0]) w := by kernel_rfl
theorem und_life : ∃ fs, Try.prog.underlying 42 = some (.struct fs) := ⟨_, Try.underlying42⟩
theorem res_any {fn : Func} {ty : TypeId} (hf : fn.results = #[.cell 2 ty, .tmp 3]) {fs : Array Field} (hu : Try.prog.underlying ty = some (.struct fs)) (t : Array Value) {rb : Nat} {w : World} {l : List Value} {b : Bool} (h2 : t.getD 2 undef = .pointer (some ⟨rb, 0, none⟩)) (h3 : t.getD 3 undef = .bool b) (hB : BL w rb ty l) (hl : (Try.prog.info? ty).map (·.size) = some l.length) :
    (results fn t).run Try.prog w = .ok (.tuple #[.agg l.toArray, .bool b]) w := by
  have hr := run_loadVar_row (P := Try.prog) w rb ty ty l.toArray (0, 0) (.struct fs) hB.heap hu rfl (by rw [hl]; simp)
  have e : ∀ g : ResultVar → Sem Value, ((#[.cell 2 ty, .tmp 3] : Array ResultVar).mapM g).run Try.prog w = ((g (.cell 2 ty)).run Try.prog w).andThen fun a w' => ((g (.tmp 3)).run Try.prog w').andThen fun b w' => .ok #[a, b] w' := fun g => by simp [go_sem]
  unfold results
  rw [hf]
  rw [Sem.run_bind, e]
  simp only [h2, h3, asAddr, Sem.run_bind, Sem.run_pure, Result.andThen_ok, hr]
  rfl
theorem res_life (t : Array Value) {rb : Nat} {w : World} {l : List Value} {b : Bool} {fn : Func} (hf : fn.results = #[.cell 2 42, .tmp 3]) (h2 : t.getD 2 undef = .pointer (some ⟨rb, 0, none⟩)) (h3 : t.getD 3 undef = .bool b) (hB : BL w rb 42 l) (hl : l.length = 21) :
    (results fn t).run Try.prog w = .ok (.tuple #[.agg l.toArray, .bool b]) w := by
  obtain ⟨fs, hu⟩ := und_life
  exact res_any hf hu t h2 h3 hB (by rw [hl]; exact sz_life)
/-- Where the blocks of a life lie. -/
structure Pl15 (w : World) (xb ba bw bt tb mb vb : Nat) (A : Option Addr) (base : Nat) : Prop where
  lo : w.heap.size + 2 ≤ xb ∧ w.heap.size + 2 ≤ ba ∧ w.heap.size + 2 ≤ bw ∧ w.heap.size + 2 ≤ bt ∧ w.heap.size + 2 ≤ tb ∧ w.heap.size + 2 ≤ mb ∧ w.heap.size + 2 ≤ vb
  hi : xb < base ∧ ba < base ∧ bw < base ∧ bt < base ∧ tb < base ∧ mb < base ∧ vb < base
  nx : xb ≠ ba ∧ xb ≠ bw ∧ xb ≠ bt ∧ xb ≠ tb ∧ xb ≠ mb ∧ xb ≠ vb
  nw : bw ≠ bt ∧ bw ≠ tb ∧ bw ≠ mb ∧ bw ≠ vb
  nv : vb ≠ ba ∧ vb ≠ bt ∧ vb ≠ tb
  A : ∀ b off, A = some ⟨b, off, none⟩ → w.heap.size + 2 ≤ b ∧ b < base ∧ b ≠ xb ∧ b ≠ bw ∧ b ≠ vb
/-- A life that is being made. -/
structure LS15 (w wr : World) (Wl : List Value) (xb ba bw bt : Nat) (A : Option Addr) (m cap : Nat) (C : Nat → Cl) (F E : Nat → Int) (thr : Int) (av rov : Value) (tb mb vb : Nat) (Ac : Option Addr) (cc : Nat) (s : Lw) (D : Nat → Bool) (base : Nat) : Prop where
  st : St wr ba bw 1000 s.f bt A m cap C
  blk : BL wr xb 42 (lfV ba bt (s.sp F E) thr av rov (.pointer (some ⟨tb, 0, none⟩)) Ac m cc)
  at_ : OwnInts wr base av s.at_
  cd : Cd wr tb mb vb D
  bx : BL wr w.heap.size 27 Wl
  br : BL wr (w.heap.size + 1) 42 zeroLife
  k : Keeps w wr
  z : base ≤ wr.heap.size
section
variable {w wr : World} {Wl : List Value} {xb ba bw bt : Nat} {A : Option Addr} {m cap : Nat} {C : Nat → Cl} {F E : Nat → Int} {thr : Int} {av rov : Value} {tb mb vb : Nat} {Ac : Option Addr} {cc : Nat} {s : Lw} {D : Nat → Bool} {base : Nat}
theorem LS15.laid (h : LS15 w wr Wl xb ba bw bt A m cap C F E thr av rov tb mb vb Ac cc s D base) (P : Pl15 w xb ba bw bt tb mb vb A base) {s' : Lw} {e : Ending} {w' : World} (ho : LayOut ba bw 1000 bt A m cap C xb thr av rov (.pointer (some ⟨tb, 0, none⟩)) Ac cc F E s' base wr e w') :
    ∃ av', e = .returned (.tuple #[]) ∧ LS15 w w' Wl xb ba bw bt A m cap C F E thr av' rov tb mb vb Ac cc s' D base ∧ Touch (fun kk => kk = xb ∨ kk = bw ∨ av.ownBlock = some kk) wr w' := by
  obtain ⟨av', he, h1, h2, h3, _, ht⟩ := ho
  have hlo := h.at_.lt
  have q1 := P.lo
  have q2 := P.hi
  have q3 := P.nx
  have q4 := P.nw
  have hS : ∀ kk, (kk = xb ∨ kk = bw ∨ av.ownBlock = some kk) → w.heap.size + 2 ≤ kk ∧ (kk = xb ∨ kk = bw ∨ base ≤ kk) := fun kk e => by
    rcases e with e | e | e
    · exact ⟨by omega, .inl e⟩
    · exact ⟨by omega, .inr (.inl e)⟩
    · have := (hlo kk e).1; exact ⟨by omega, .inr (.inr this)⟩
  exact ⟨av', he, ⟨h1, h2, h3, h.cd.touch ht (fun e => by have := hS _ e; omega) (fun e => by have := hS _ e; omega) (fun e => by have := hS _ e; omega), h.bx.touch ht (fun e => by have := hS _ e; omega), h.br.touch ht (fun e => by have := hS _ e; omega),
    Touch.trans h.k ht (fun x e hx => by have := hS _ e; omega), by have := ht.size; have := h.z; omega⟩, ht⟩
/-- A world in which only the words changed. -/
theorem LS15.words (h : LS15 w wr Wl xb ba bw bt A m cap C F E thr av rov tb mb vb Ac cc s D base) (P : Pl15 w xb ba bw bt tb mb vb A base) {w' : World} {f' : Nat → Int} (hs : St w' ba bw 1000 f' bt A m cap C) (o : Only bw wr w') :
    LS15 w w' Wl xb ba bw bt A m cap C F E thr av rov tb mb vb Ac cc { s with f := f' } D base := by
  have hlo := h.at_.lt
  have q1 := P.lo
  have q2 := P.hi
  have q3 := P.nx
  have q4 := P.nw
  exact ⟨hs, h.blk.touch o (show ¬ xb = bw by omega), h.at_.touch o (fun kk e h2 => by have := (hlo kk e).1; omega), h.cd.touch o (show ¬ tb = bw by omega) (show ¬ mb = bw by omega) (show ¬ vb = bw by omega), h.bx.touch o (show ¬ w.heap.size = bw by omega), h.br.touch o (show ¬ w.heap.size + 1 = bw by omega),
    h.k.new o (by omega), by have := o.size; have := h.z; omega⟩
theorem LS15.keep (h : LS15 w wr Wl xb ba bw bt A m cap C F E thr av rov tb mb vb Ac cc s D base) {w' : World} (k : Keeps wr w') : LS15 w w' Wl xb ba bw bt A m cap C F E thr av rov tb mb vb Ac cc s D base :=
  ⟨h.st.keep k, h.blk.keep k, h.at_.touch k (fun _ _ e => e), h.cd.keep k, h.bx.keep k, h.br.keep k, h.k.trans k, by have := k.size; have := h.z; omega⟩
/-- The roots are stored into the life. -/
theorem LS15.root (h : LS15 w wr Wl xb ba bw bt A m cap C F E thr av rov tb mb vb Ac cc s D base) (P : Pl15 w xb ba bw bt tb mb vb A base) {w' : World} {S : Nat → Prop} (t : Touch S wr w') (hS : ∀ kk, S kk → base ≤ kk) (hav : ∀ kk, av.ownBlock = some kk → ¬ S kk) (rov' : Value) :
    LS15 w (w'.setCell ⟨xb, 18, none⟩ rov') Wl xb ba bw bt A m cap C F E thr av rov' tb mb vb Ac cc s D base := by
  have hlo := h.at_.lt
  have q1 := P.lo
  have q2 := P.hi
  have q3 := P.nx
  have hb := h.blk.touch t (fun e => by have := hS _ e; omega)
  have hb2 : BL (w'.setCell ⟨xb, 18, none⟩ rov') xb 42 (lfV ba bt (s.sp F E) thr av rov' (.pointer (some ⟨tb, 0, none⟩)) Ac m cc) := BL.set hb 18 rov'
  have T : Touch (fun kk => S kk ∨ kk = xb) wr (w'.setCell ⟨xb, 18, none⟩ rov') := Touch.trans (t.mono (fun _ e _ => .inl e)) (Touch.set (Only.refl xb w') 18 rov') (fun x e _ => .inr e)
  have hT : ∀ kk, (S kk ∨ kk = xb) → kk = xb ∨ base ≤ kk := fun kk e => e.elim (fun e => .inr (hS kk e)) .inl
  exact ⟨h.st.touch T (fun e => by have := hT _ e; omega) (fun e => by have := hT _ e; omega) (fun e => by have := hT _ e; omega) (fun b off e e2 => by have := hT _ e2; have := P.A b off e; omega), hb2, h.at_.touch T (fun kk e e2 => e2.elim (hav kk e) (fun e2 => by have := (hlo kk e).1; omega)),
    h.cd.touch T (fun e => by have := hT _ e; omega) (fun e => by have := hT _ e; omega) (fun e => by have := hT _ e; omega), h.bx.touch T (fun e => by have := hT _ e; omega), h.br.touch T (fun e => by have := hT _ e; omega),
    Touch.trans h.k T (fun x e hx => by have := hT _ e; omega), by have := T.size; have := h.z; omega⟩
/-- A card is touched. -/
theorem LS15.card (h : LS15 w wr Wl xb ba bw bt A m cap C F E thr av rov tb mb vb Ac cc s D base) (P : Pl15 w xb ba bw bt tb mb vb A base) {w' : World} {D' : Nat → Bool} (hc : Cd w' tb mb vb D') (o : Only vb wr w') :
    LS15 w w' Wl xb ba bw bt A m cap C F E thr av rov tb mb vb Ac cc s D' base := by
  have hlo := h.at_.lt
  have q1 := P.lo
  have q2 := P.hi
  have q3 := P.nx
  have q4 := P.nw
  have q5 := P.nv
  exact ⟨h.st.touch o (show ¬ ba = vb by omega) (show ¬ bw = vb by omega) (show ¬ bt = vb by omega) (fun b off e e2 => (P.A b off e).2.2.2.2 e2), h.blk.touch o (show ¬ xb = vb by omega), h.at_.touch o (fun kk e h2 => by have := (hlo kk e).1; omega), hc, h.bx.touch o (show ¬ w.heap.size = vb by omega), h.br.touch o (show ¬ w.heap.size + 1 = vb by omega),
    h.k.new o (by omega), by have := o.size; have := h.z; omega⟩
end
theorem LwOk.layN_le {m : Nat} {C : Nat → Cl} (hC : ∀ j, j < m → (C j).ok) (hm0 : 0 < m) (hm : m < 64) {half : Int} (h : 0 ≤ half ∧ half ≤ 100) {T : Nat → Tg} {N : Nat} (hT : ∀ i, i < N → 0 ≤ (T i).da ∧ (T i).da ≤ 255) : ∀ i, i ≤ N → LwOk 1000 m C (beg15 half) (end15 half) (Go.Proofs.Ytabfbgkablbeeaa.layN C m half T i)
  | 0, _ => LwOk.start hC h
  | i + 1, hi => (LwOk.layN_le hC hm0 hm h hT i (by omega)).lay hm0 hm (end15_le h) (hT i (by omega))
/-- The references of a world, by threes. -/
def rgF (R : Nat → Int) : Nat → Rg := fun i => ⟨R (i * 3), R (i * 3 + 1), R (i * 3 + 2)⟩
/-- The dirty cards, of the first objects. -/
def DirtyN (n m : Nat) (C : Nat → Cl) (s : Lw) (j : Nat) (D : Nat → Bool) : Prop := ∀ c, D c = true ↔ ∃ i, i < j ∧ oldB (s.at_.getD i 0) = true ∧ LeadsTo n m C s.f notOld (s.at_.getD i 0) ∧ cardN (s.at_.getD i 0) = c
theorem DirtyN.zero (n m : Nat) (C : Nat → Cl) (s : Lw) : DirtyN n m C s 0 (fun _ => false) := fun c => ⟨fun h => (by cases h), fun ⟨i, h, _⟩ => by omega⟩
theorem DirtyN.no {n m : Nat} {C : Nat → Cl} {s : Lw} {j : Nat} {D : Nat → Bool} (h : DirtyN n m C s j D) (hn : ¬ (oldB (s.at_.getD j 0) = true ∧ LeadsTo n m C s.f notOld (s.at_.getD j 0))) : DirtyN n m C s (j + 1) D := fun c => (h c).trans
  ⟨fun ⟨i, a, b⟩ => ⟨i, by omega, b⟩, fun ⟨i, a, b, c, d⟩ => ⟨i, by
    have : i ≠ j := fun e => hn (e ▸ ⟨b, c⟩)
    omega, b, c, d⟩⟩
theorem DirtyN.yes {n m : Nat} {C : Nat → Cl} {s : Lw} {j : Nat} {D : Nat → Bool} (h : DirtyN n m C s j D) (h1 : oldB (s.at_.getD j 0) = true) (h2 : LeadsTo n m C s.f notOld (s.at_.getD j 0)) : DirtyN n m C s (j + 1) (setD D (cardN (s.at_.getD j 0))) := fun c => by
  unfold setD
  constructor
  · intro e
    by_cases hc : c = cardN (s.at_.getD j 0)
    · exact ⟨j, by omega, h1, h2, hc.symm⟩
    · have e' : D c = true := by
        rcases h0 : D c with _ | _
        · rw [h0] at e; simp [hc] at e; exact absurd e (by rw [List.getD_eq_getElem?_getD] at hc; exact hc)
        · rfl
      obtain ⟨i, a, b⟩ := (h c).1 e'
      exact ⟨i, by omega, b⟩
  · rintro ⟨i, a, b, c', d⟩
    by_cases hc : c = cardN (s.at_.getD j 0)
    · simp [hc]
    · have : i ≠ j := fun e => hc (by rw [← d, e])
      have e' : D c = true := (h c).2 ⟨i, by omega, b, c', d⟩
      simp [e', hc]
theorem DirtyN.all {n m : Nat} {C : Nat → Cl} {s : Lw} {D : Nat → Bool} (h : DirtyN n m C s s.at_.length D) : Dirty n m C s D := fun c => (h c).trans
  ⟨fun ⟨i, a, b⟩ => ⟨_, by rw [List.getD_eq_getElem?_getD, List.getElem?_eq_getElem a]; exact List.getElem_mem _, b⟩, fun ⟨a, ha, b⟩ => by
    obtain ⟨i, hi, e⟩ := List.getElem_of_mem ha
    have : s.at_.getD i 0 = a := by rw [List.getD_eq_getElem?_getD, List.getElem?_eq_getElem hi]; exact e
    exact ⟨i, hi, by rw [this]; exact b⟩⟩
/-- A world that there is. -/
def Good15 (m : Nat) (C : Nat → Cl) (nt nr nz : Nat) : Prop := nt ≤ 60 ∧ nr ≤ 200 ∧ nz ≤ 20 ∧ 0 < m ∧ m ≤ 63 ∧ ∀ j, j < m → rgB (C j) = true
/-- The world that is made. -/
def wd15 (m : Nat) (C : Nat → Cl) (nt : Nat) (T : Nat → Tg) (nr : Nat) (R : Nat → Int) (s0 : Int) : Lw := refN 1000 m C (rgF R) (layN C m (s0 % 101) T nt) nr
def lifeV (ba bt : Nat) (Y : Nat → Sp) (thr : Int) (av rov dv : Value) (Ac : Option Addr) (m cc : Nat) : Value := .agg #[.pointer (some ⟨ba, 0, none⟩), .pointer (some ⟨bt, 0, none⟩), .pointer (some ⟨ba, 0, none⟩), .pointer (some ⟨bt, 0, none⟩), .int .i64 (Y 0).f, .int .i64 (Y 0).t, .int .i64 (Y 0).e, .int .i64 (Y 1).f, .int .i64 (Y 1).t, .int .i64 (Y 1).e, .int .i64 (Y 2).f, .int .i64 (Y 2).t, .int .i64 (Y 2).e, .int .i64 (Y 3).f, .int .i64 (Y 3).t, .int .i64 (Y 3).e, .int .i64 thr, av, rov, dv, .slice Ac m cc]
/-- A world that was made. -/
structure Made (w w' : World) (xb ba bw bt : Nat) (A : Option Addr) (m cap : Nat) (C : Nat → Cl) (av rov : Value) (tb mb vb : Nat) (s : Lw) (rl : List Int) (D : Nat → Bool) (base : Nat) : Prop where
  pl : Pl15 w xb ba bw bt tb mb vb A base
  st : St w' ba bw 1000 s.f bt A m cap C
  at_ : OwnInts w' base av s.at_
  roots : OwnInts w' base rov rl
  cd : Cd w' tb mb vb D
  dirty : Dirty 1000 m C s D
  z : base ≤ w'.heap.size
def MadeNo (g : Prop) (w : World) (e : Ending) (w' : World) : Prop := ¬ g ∧ e = .returned (.tuple #[.agg #[.pointer none, .pointer none, .pointer none, .pointer none, .int .i64 0, .int .i64 0, .int .i64 0, .int .i64 0, .int .i64 0, .int .i64 0, .int .i64 0, .int .i64 0, .int .i64 0, .int .i64 0, .int .i64 0, .int .i64 0, .int .i64 0, .slice none 0 0, .slice none 0 0, .pointer none, .slice none 0 0], .bool false]) ∧ Keeps w w'
def MadeOut (w : World) (Ac : Option Addr) (m cc : Nat) (C : Nat → Cl) (nt : Nat) (T : Nat → Tg) (nr : Nat) (R : Nat → Int) (nz : Nat) (Z : Nat → Int) (s0 s1 : Int) (e : Ending) (w' : World) : Prop :=
  MadeNo (Good15 m C nt nr nz) w e w' ∨ ∃ xb ba bw bt A cap av rov tb mb vb D base,
    e = .returned (.tuple #[lifeV ba bt ((wd15 m C nt T nr R s0).sp (beg15 (s0 % 101)) (end15 (s0 % 101))) (s1 % 8) av rov (.pointer (some ⟨tb, 0, none⟩)) Ac m cc, .bool true]) ∧
    Made w w' xb ba bw bt A m cap C av rov tb mb vb (wd15 m C nt T nr R s0) (rootsN (wd15 m C nt T nr R s0) Z nz) D base ∧ Good15 m C nt nr nz ∧ Keeps w w'

end Go.Proofs.Ytabfbgkablbeeaa
