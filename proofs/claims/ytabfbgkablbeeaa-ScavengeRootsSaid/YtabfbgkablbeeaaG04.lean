/- Layer 4, head, by contracts. -/
import Derived.Test.YtabfbgkablbeeaaG03
import Derived.Deep.QuietTactic
import Derived.BigQuiet
import Derived.Handy
import Derived.Test.YtabfbgkablbeeaaG01
import Derived.StillTailTactics
set_option linter.all false

namespace Go.Proofs.Ytabfbgkablbeeaa
open Go.RowKit

structure Cl where
  kind : Int
  refs : Int
  data : Int
  fin : Bool
def clF (C : Nat → Cl) : Nat → Value := fun j =>
  if j % 4 = 0 then .int .i64 (C (j / 4)).kind else if j % 4 = 1 then .int .i64 (C (j / 4)).refs else if j % 4 = 2 then .int .i64 (C (j / 4)).data else .bool (C (j / 4)).fin
def clV (c : Cl) : Value := .agg #[.int .i64 c.kind, .int .i64 c.refs, .int .i64 c.data, .bool c.fin]
def Cl.ok (c : Cl) : Prop := 0 ≤ c.refs ∧ c.refs ≤ 30 ∧ 0 ≤ c.data ∧ c.data ≤ 30 ∧ c.refs + c.data ≤ 30
/-- A table: block bt holds the classes' slice. -/
structure Tb (w : World) (bt : Nat) (A : Option Addr) (m cap : Nat) (C : Nat → Cl) : Prop where
  head : Blk w bt 81 1 (fun _ => .slice A m cap)
  body : Rd w A (m * 4) (clF C)
  le : m < 64
  ok : ∀ j, j < m → (C j).ok
theorem Tb.touch {S : Nat → Prop} {w w' : World} {bt : Nat} {A : Option Addr} {m cap : Nat} {C : Nat → Cl} (h : Tb w bt A m cap C) (ht : Touch S w w') (h1 : ¬ S bt) (h2 : ∀ b off, A = some ⟨b, off, none⟩ → ¬ S b) : Tb w' bt A m cap C :=
  ⟨h.head.touch ht h1, h.body.keepS ht h2, h.le, h.ok⟩
theorem Tb.keep {w w' : World} {bt : Nat} {A : Option Addr} {m cap : Nat} {C : Nat → Cl} (h : Tb w bt A m cap C) (ht : Keeps w w') : Tb w' bt A m cap C :=
  h.touch ht (fun h => h) (fun _ _ _ h => h)
theorem Tb.cl {w : World} {bt : Nat} {A : Option Addr} {m cap : Nat} {C : Nat → Cl} (h : Tb w bt A m cap C) {k : Nat} (hk : k < m) :
    ∃ b off, A = some ⟨b, off, none⟩ ∧ w.cell? ⟨b, off + k * 4, none⟩ = some (.int .i64 (C k).kind) ∧ w.cell? ⟨b, off + k * 4 + 1, none⟩ = some (.int .i64 (C k).refs) ∧ w.cell? ⟨b, off + k * 4 + 2, none⟩ = some (.int .i64 (C k).data) ∧ w.cell? ⟨b, off + k * 4 + 3, none⟩ = some (.bool (C k).fin) := by
  obtain ⟨b, off, e, hc⟩ := h.body.at_ (k := k) hk (by omega)
  refine ⟨b, off, e, ?_, ?_, ?_, ?_⟩
  · have := hc 0 (by omega)
    simpa [clF] using this
  · have := hc 1 (by omega)
    have e1 : (k * 4 + 1) / 4 = k := by omega
    have e2 : (k * 4 + 1) % 4 = 1 := by omega
    simpa [clF, e1, e2] using this
  · have := hc 2 (by omega)
    have e1 : (k * 4 + 2) / 4 = k := by omega
    have e2 : (k * 4 + 2) % 4 = 2 := by omega
    simpa [clF, e1, e2] using this
  · have := hc 3 (by omega)
    have e1 : (k * 4 + 3) / 4 = k := by omega
    have e2 : (k * 4 + 3) % 4 = 3 := by omega
    simpa [clF, e1, e2] using this

theorem zero_cl (w : World) : (zeroValue 53).run Try.prog w = .ok (.agg #[.int .i64 0, .int .i64 0, .int .i64 0, .bool false]) w := by kernel_rfl
theorem clen_any (bt : Nat) (A : Option Addr) (m cap : Nat) (C : Nat → Cl) (w : World) (h : Tb w bt A m cap C) :
    Calls Try.prog 83 #[.pointer (some ⟨bt, 0, none⟩)] w fun e w' => e = .returned (.int .i64 (m : Int)) ∧ w = w' := by
  have c0 : w.cell? ⟨bt, 0, none⟩ = some (.slice A m cap) := h.head.cell (j := 0) (by omega)
  go_enter Try.func83, Try.ntmps83
  go_wp2_with fail
  go_ret
  exact ⟨rfl, rfl⟩
theorem clen_nil (w : World) :
    Calls Try.prog 83 #[.pointer none] w fun e w' => e = .returned (.int .i64 0) ∧ w = w' := by
  go_enter Try.func83, Try.ntmps83
  go_wp2_with fail
  go_ret
  exact ⟨rfl, rfl⟩

def cl0 : Cl := ⟨0, 0, 0, false⟩
/-- The class of number k + 1. -/
theorem of_yes (bt : Nat) (A : Option Addr) (m cap : Nat) (C : Nat → Cl) (w : World) (h : Tb w bt A m cap C) (k : Nat) (hk : k < m) :
    Calls Try.prog 69 #[.pointer (some ⟨bt, 0, none⟩), .int .i64 ((k : Int) + 1)] w fun e w' => e = .returned (.tuple #[clV (C k), .int .i64 0]) ∧ Keeps w w' := by
  have hz := zero_cl
  have hle := h.le
  have KA : Keeps w (w.alloc (.cells #[.int .i64 0, .int .i64 0, .int .i64 0, .bool false] 53)) := (Touch.refl _ w).alloc _
  have hB := Blk.made w 4 53 (clF fun _ => cl0) #[.int .i64 0, .int .i64 0, .int .i64 0, .bool false] rfl (fun j hj => by rcases (by omega : j = 0 ∨ j = 1 ∨ j = 2 ∨ j = 3) with rfl | rfl | rfl | rfl <;> rfl)
  have hT := h.keep KA
  have HL := Lib.hid (clen_any bt A m cap C _ hT)
  have c0 : (w.alloc (.cells #[.int .i64 0, .int .i64 0, .int .i64 0, .bool false] 53)).cell? ⟨bt, 0, none⟩ = some (.slice A m cap) := hT.head.cell (j := 0) (by omega)
  obtain ⟨b, off, rfl, d0, d1, d2, d3⟩ := hT.cl hk
  have i1 : ¬ ((k : Int) + 1 < 1) := by omega
  have i2 : ¬ ((m : Int) < (k : Int) + 1) := by omega
  have hb4 := (((hB.set 0 (.int .i64 (C k).kind)).set 1 (.int .i64 (C k).refs)).set 2 (.int .i64 (C k).data)).set 3 (.bool (C k).fin)
  have g0 := hb4.cell (j := 0) (by omega)
  have g1 := hb4.cell (j := 1) (by omega)
  have g2 := hb4.cell (j := 2) (by omega)
  have g3 := hb4.cell (j := 3) (by omega)
  simp [upd] at g0 g1 g2 g3
  have e0 := hB.cell (j := 0) (by omega)
  have e1 := hB.cell (j := 1) (by omega)
  have e2 := hB.cell (j := 2) (by omega)
  have e3 := hB.cell (j := 3) (by omega)
  have f0 := hB.frozen 0
  have f1 := hB.frozen 1
  have f2 := hB.frozen 2
  have f3 := hB.frozen 3
  have KB := KA.new (((((Only.refl w.heap.size (w.alloc (.cells #[.int .i64 0, .int .i64 0, .int .i64 0, .bool false] 53))).set 0 (.int .i64 (C k).kind)).set 1 (.int .i64 (C k).refs)).set 2 (.int .i64 (C k).data)).set 3 (.bool (C k).fin)) (Nat.le_refl _)
  have HK := Lib.hid KB
  clear h hT hB hb4 KA KB
  go_enter Try.func69, Try.ntmps69
  go_wp2_with fail
  refine Calls.mono HL.out ?_
  rintro e w1 ⟨rfl, rfl⟩
  clear hz
  generalize w.alloc (.cells #[.int .i64 0, .int .i64 0, .int .i64 0, .bool false] 53) = wA at *
  go_wp2_with fail
  exact bodyPost_ret (v := .tuple #[clV (C k), .int .i64 0]) (by simp [results, Try.results69, go_sem, clV, g0, g1, g2, g3]) rfl ⟨rfl, HK.out⟩
/-- No class of that number. -/
theorem of_no (bt : Nat) (A : Option Addr) (m cap : Nat) (C : Nat → Cl) (w : World) (h : Tb w bt A m cap C) (a : Int) (hno : ¬ (1 ≤ a ∧ a ≤ m)) :
    Calls Try.prog 69 #[.pointer (some ⟨bt, 0, none⟩), .int .i64 a] w fun e w' => e = .returned (.tuple #[clV cl0, .int .i64 4]) ∧ Keeps w w' := by
  have hz := zero_cl
  have KA : Keeps w (w.alloc (.cells #[.int .i64 0, .int .i64 0, .int .i64 0, .bool false] 53)) := (Touch.refl _ w).alloc _
  have hT := h.keep KA
  have HL := Lib.hid (clen_any bt A m cap C _ hT)
  have HK := Lib.hid KA
  clear h hT KA
  by_cases h1 : a < 1
  · clear hno
    go_enter Try.func69, Try.ntmps69
    go_wp2_with fail
    exact bodyPost_ret (v := .tuple #[clV cl0, .int .i64 4]) (by simp [results, Try.results69, go_sem, clV, cl0]) rfl ⟨rfl, HK.out⟩
  · have i2 : (m : Int) < a := by omega
    clear hno
    go_enter Try.func69, Try.ntmps69
    go_wp2_with fail
    refine Calls.mono HL.out ?_
    rintro e w1 ⟨rfl, rfl⟩
    go_wp2_with fail
    exact bodyPost_ret (v := .tuple #[clV cl0, .int .i64 4]) (by simp [results, Try.results69, go_sem, clV, cl0]) rfl ⟨rfl, HK.out⟩

/-- What Shape answers: its error; what an object has. -/
def shE (C : Nat → Cl) (m : Nat) (a len : Int) : Int :=
  if ¬ (1 ≤ a ∧ a ≤ m) then 4 else if len < 0 ∨ (0 < len ∧ (C (a - 1).toNat).kind ≠ 2) then 1 else if 30 < len then 8 else 0
def shR (C : Nat → Cl) (m : Nat) (a len : Int) : Int := if shE C m a len = 0 then (C (a - 1).toNat).refs + len else 0
def shD (C : Nat → Cl) (m : Nat) (a len : Int) : Int := if shE C m a len = 0 then (C (a - 1).toNat).data else 0

theorem shape_any (bt : Nat) (A : Option Addr) (m cap : Nat) (C : Nat → Cl) (w : World) (h : Tb w bt A m cap C) (a len : Int) :
    Calls Try.prog 82 #[.pointer (some ⟨bt, 0, none⟩), .int .i64 a, .int .i64 len] w fun e w' => e = .returned (.tuple #[.int .i64 (shR C m a len), .int .i64 (shD C m a len), .int .i64 (shE C m a len)]) ∧ Keeps w w' := by
  have hz := zero_cl
  by_cases ha : 1 ≤ a ∧ a ≤ m
  · obtain ⟨k, hk, rfl⟩ : ∃ k : Nat, k < m ∧ a = (k : Int) + 1 := ⟨(a - 1).toNat, by omega, by omega⟩
    have hkk : ((k : Int) + 1 - 1).toNat = k := by omega
    have HO := Lib.hid (of_yes bt A m cap C w h k hk)
    obtain ⟨o1, o2, o3, o4, o5⟩ := h.ok k hk
    unfold shR shD
    have hE : shE C m ((k : Int) + 1) len = if len < 0 ∨ (0 < len ∧ (C k).kind ≠ 2) then 1 else if 30 < len then 8 else 0 := by
      unfold shE
      rw [if_neg (by simpa using ha), hkk]
    rw [hkk, hE]
    clear hE hkk ha h
    generalize C k = c at *
    obtain ⟨ck, cr, cd, cf⟩ := c
    unfold clV at HO
    dsimp only at *
    by_cases h1 : len < 0
    · have hEv : (if len < 0 ∨ (0 < len ∧ ck ≠ 2) then (1 : Int) else if 30 < len then 8 else 0) = 1 := if_pos (.inl h1)
      rw [hEv, if_neg (by decide), if_neg (by decide)]
      clear hEv
      go_enter Try.func82, Try.ntmps82
      go_wp2_with fail
      refine Calls.mono HO.out ?_
      rintro e w1 ⟨rfl, k1⟩
      go_wp2_with fail
      go_returns
      exact ⟨rfl, k1.alloc _⟩
    · by_cases h2 : 0 < len ∧ ck ≠ 2
      · have hEv : (if len < 0 ∨ (0 < len ∧ ck ≠ 2) then (1 : Int) else if 30 < len then 8 else 0) = 1 := if_pos (.inr h2)
        rw [hEv, if_neg (by decide), if_neg (by decide)]
        clear hEv
        obtain ⟨h3, h4⟩ := h2
        have h5 : (ck != 2) = true := by simpa using h4
        clear h4
        go_enter Try.func82, Try.ntmps82
        go_wp2_with fail
        refine Calls.mono HO.out ?_
        rintro e w1 ⟨rfl, k1⟩
        go_wp2_with fail
        go_returns
        exact ⟨rfl, k1.alloc _⟩
      · have h5 : (decide (0 < len) && (ck != 2)) = false := by
          by_cases h6 : 0 < len
          · have : ck = 2 := Classical.byContradiction fun h => h2 ⟨h6, h⟩
            simp [this]
          · simp [h6]
        by_cases h3 : 30 < len
        · have hEv : (if len < 0 ∨ (0 < len ∧ ck ≠ 2) then (1 : Int) else if 30 < len then 8 else 0) = 8 := by
            rw [if_neg (fun h => h.elim h1 h2), if_pos h3]
          rw [hEv, if_neg (by decide), if_neg (by decide)]
          clear hEv h5
          have h7 : (ck != 2) = false := by
            have : ck = 2 := Classical.byContradiction fun h => h2 ⟨by omega, h⟩
            simp [this]
          have h8 : 0 < len := by omega
          clear h2
          go_enter Try.func82, Try.ntmps82
          go_wp2_with fail
          refine Calls.mono HO.out ?_
          rintro e w1 ⟨rfl, k1⟩
          go_wp2_with fail
          go_returns
          exact ⟨rfl, k1.alloc _⟩
        · have hEv : (if len < 0 ∨ (0 < len ∧ ck ≠ 2) then (1 : Int) else if 30 < len then 8 else 0) = 0 := by
            rw [if_neg (fun h => h.elim h1 h2), if_neg h3]
          rw [hEv, if_pos rfl, if_pos rfl]
          clear hEv h5
          by_cases h6 : 0 < len
          · have h7 : (ck != 2) = false := by
              have : ck = 2 := Classical.byContradiction fun h => h2 ⟨h6, h⟩
              simp [this]
            clear h2
            have h9 : IntKind.i64.wrap (cr + len) = cr + len := IntWalk.i64_in _ ⟨by omega, by omega⟩
            go_enter Try.func82, Try.ntmps82
            go_wp2_with fail
            refine Calls.mono HO.out ?_
            rintro e w1 ⟨rfl, k1⟩
            go_wp2_with fail
            go_quiet (fail)
            go_wp2_with fail
            go_returns
            exact ⟨rfl, (k1.alloc _).drewN _⟩
          · have h7 : len = 0 := by omega
            subst h7
            clear h2
            have h9 : IntKind.i64.wrap cr = cr := IntWalk.i64_in _ ⟨by omega, by omega⟩
            go_enter Try.func82, Try.ntmps82
            go_wp2_with fail
            refine Calls.mono HO.out ?_
            rintro e w1 ⟨rfl, k1⟩
            go_wp2_with fail
            go_quiet (fail)
            go_wp2_with fail
            go_returns
            exact ⟨by rw [Int.add_zero]; rfl, (k1.alloc _).drewN _⟩
  · have HO := Lib.hid (of_no bt A m cap C w h a ha)
    have hE : shE C m a len = 4 := if_pos ha
    unfold shR shD
    rw [hE, if_neg (by decide), if_neg (by decide)]
    unfold clV cl0 at HO
    clear hE ha h
    go_enter Try.func82, Try.ntmps82
    go_wp2_with fail
    refine Calls.mono HO.out ?_
    rintro e w1 ⟨rfl, k1⟩
    go_wp2_with fail
    go_returns
    exact ⟨rfl, k1.alloc _⟩

end Go.Proofs.Ytabfbgkablbeeaa

namespace Go.Proofs.Ytabfbgkablbeeaa
open Go.RowKit

def shW (C : Nat → Cl) (m : Nat) (a len : Int) : Int := if shE C m a len = 0 then 2 + shR C m a len + shD C m a len else 0
theorem sh_bd {C : Nat → Cl} {m : Nat} (hok : ∀ j, j < m → (C j).ok) {a len : Int} (h : shE C m a len = 0) : 0 ≤ shR C m a len ∧ shR C m a len ≤ 60 ∧ 0 ≤ shD C m a len ∧ shD C m a len ≤ 30 := by
  unfold shR shD
  rw [if_pos h, if_pos h]
  unfold shE at h
  by_cases h1 : ¬ (1 ≤ a ∧ a ≤ m)
  · rw [if_pos h1] at h; cases h
  · rw [if_neg h1] at h
    by_cases h2 : len < 0 ∨ (0 < len ∧ (C (a - 1).toNat).kind ≠ 2)
    · rw [if_pos h2] at h; cases h
    · rw [if_neg h2] at h
      by_cases h3 : 30 < len
      · rw [if_pos h3] at h; cases h
      · obtain ⟨o1, o2, o3, o4, o5⟩ := hok (a - 1).toNat (by omega)
        have : ¬ len < 0 := fun h => h2 (.inl h)
        omega
theorem words_any (bt : Nat) (A : Option Addr) (m cap : Nat) (C : Nat → Cl) (w : World) (h : Tb w bt A m cap C) (a len : Int) :
    Calls Try.prog 67 #[.pointer (some ⟨bt, 0, none⟩), .int .i64 a, .int .i64 len] w fun e w' => e = .returned (.tuple #[.int .i64 (shW C m a len), .int .i64 (shE C m a len)]) ∧ Keeps w w' := by
  have HS := Lib.hid (shape_any bt A m cap C w h a len)
  have hbd := sh_bd (a := a) (len := len) h.ok
  unfold shW
  generalize shR C m a len = r at *
  generalize shD C m a len = d at *
  generalize shE C m a len = x at *
  clear h
  by_cases hx : x = 0
  · subst hx
    obtain ⟨h1, h2, h3, h4⟩ := hbd rfl
    clear hbd
    rw [if_pos rfl]
    have w1 : IntKind.i64.wrap (2 + r) = 2 + r := IntWalk.i64_in _ ⟨by omega, by omega⟩
    have w2 : IntKind.i64.wrap (2 + r + d) = 2 + r + d := IntWalk.i64_in _ ⟨by omega, by omega⟩
    go_enter Try.func67, Try.ntmps67
    go_wp2_with fail
    refine Calls.mono HS.out ?_
    rintro e w1 ⟨rfl, k1⟩
    go_wp2_with fail
    go_returns
    exact ⟨rfl, k1⟩
  · rw [if_neg hx]
    have hx' : (x != 0) = true := by simpa using hx
    clear hbd hx
    go_enter Try.func67, Try.ntmps67
    go_wp2_with fail
    refine Calls.mono HS.out ?_
    rintro e w1 ⟨rfl, k1⟩
    go_wp2_with fail
    go_returns
    exact ⟨rfl, k1⟩

/-! ### a nil table -/
theorem of_nil (w : World) (a : Int) :
    Calls Try.prog 69 #[.pointer none, .int .i64 a] w fun e w' => e = .returned (.tuple #[clV cl0, .int .i64 4]) ∧ Keeps w w' := by
  have hz := zero_cl
  have HL := Lib.hid (fun w => clen_nil w)
  have HK := Lib.hid ((Touch.refl (fun _ => False) w).alloc (.cells #[.int .i64 0, .int .i64 0, .int .i64 0, .bool false] 53))
  by_cases h1 : a < 1
  · go_enter Try.func69, Try.ntmps69
    go_wp2_with fail
    exact bodyPost_ret (v := .tuple #[clV cl0, .int .i64 4]) (by simp [results, Try.results69, go_sem, clV, cl0]) rfl ⟨rfl, HK.out⟩
  · have i2 : (0 : Int) < a := by omega
    go_enter Try.func69, Try.ntmps69
    go_wp2_with fail
    refine (HL.out _).mono ?_
    rintro e w1 ⟨rfl, rfl⟩
    go_wp2_with fail
    exact bodyPost_ret (v := .tuple #[clV cl0, .int .i64 4]) (by simp [results, Try.results69, go_sem, clV, cl0]) rfl ⟨rfl, HK.out⟩
theorem shape_nil (w : World) (a len : Int) :
    Calls Try.prog 82 #[.pointer none, .int .i64 a, .int .i64 len] w fun e w' => e = .returned (.tuple #[.int .i64 0, .int .i64 0, .int .i64 4]) ∧ Keeps w w' := by
  have hz := zero_cl
  have HO := Lib.hid (of_nil w a)
  unfold clV cl0 at HO
  go_enter Try.func82, Try.ntmps82
  go_wp2_with fail
  refine Calls.mono HO.out ?_
  rintro e w1 ⟨rfl, k1⟩
  go_wp2_with fail
  go_returns
  exact ⟨rfl, k1.alloc _⟩
theorem words_nil (w : World) (a len : Int) :
    Calls Try.prog 67 #[.pointer none, .int .i64 a, .int .i64 len] w fun e w' => e = .returned (.tuple #[.int .i64 0, .int .i64 4]) ∧ Keeps w w' := by
  have HO := Lib.hid (shape_nil w a len)
  go_enter Try.func67, Try.ntmps67
  go_wp2_with fail
  refine Calls.mono HO.out ?_
  rintro e w1 ⟨rfl, k1⟩
  go_wp2_with fail
  go_returns
  exact ⟨rfl, k1⟩

end Go.Proofs.Ytabfbgkablbeeaa

namespace Go.Proofs.Ytabfbgkablbeeaa
open Go.RowKit

structure Hd where
  cls : Int
  age : Int
  fwd : Int
  mark : Bool
  fin : Bool
  done : Bool
def hdV (h : Hd) : Value := .agg #[.int .i64 h.cls, .int .i64 h.age, .int .i64 h.fwd, .bool h.mark, .bool h.fin, .bool h.done]
def Hd.ok (h : Hd) : Prop := (0 ≤ h.cls ∧ h.cls < 64) ∧ (0 ≤ h.age ∧ h.age < 8) ∧ (0 ≤ h.fwd ∧ h.fwd < 4096) ∧ ¬ (h.fin = true ∧ h.done = true)
instance (h : Hd) : Decidable h.ok := by unfold Hd.ok; infer_instance

theorem within_any (a e : Int) (w : World) :
    Calls Try.prog 88 #[.int .i64 a, .int .i64 e] w fun r w' => r = .returned (.bool (decide (0 ≤ a ∧ a < e))) ∧ w' = w := by
  by_cases h1 : 0 ≤ a
  · by_cases h2 : a < e
    · rw [decide_eq_true (And.intro h1 h2)]
      go_enter Try.func88, Try.ntmps88
      go_wp2_with fail
      go_ret
      exact ⟨rfl, rfl⟩
    · rw [decide_eq_false (fun h => h2 h.2)]
      go_enter Try.func88, Try.ntmps88
      go_wp2_with fail
      go_ret
      exact ⟨by simp, rfl⟩
  · rw [decide_eq_false (fun h => h1 h.1)]
    have h3 : a < 0 := by omega
    go_enter Try.func88, Try.ntmps88
    go_wp2_with fail
    go_ret
    exact ⟨rfl, rfl⟩
theorem pow_wrap : ∀ k : Nat, k ≤ 40 → wrap64 (2 ^ k) = 2 ^ k := by decide +kernel
theorem bit_any (b : Bool) (k : Nat) (hk : k ≤ 40) (w : World) :
    Calls Try.prog 85 #[.bool b, .int .i64 (k : Int)] w fun r w' => r = .returned (.int .i64 (if b then 2 ^ k else 0)) ∧ w' = w := by
  cases b with
  | true =>
    go_enter Try.func85, Try.ntmps85
    go_wp2_with fail
    go_ret
    exact ⟨congrArg (fun x => Ending.returned (.int .i64 x)) (pow_wrap k hk), rfl⟩
  | false =>
    go_enter Try.func85, Try.ntmps85
    go_wp2_with fail
    go_ret
    exact ⟨rfl, rfl⟩

theorem hright_any (h : Hd) (w : World) :
    Calls Try.prog 84 #[hdV h] w fun r w' => r = .returned (.bool (decide h.ok)) ∧ Keeps w w' := by
  have HW := Lib.hid (fun a e w => within_any a e w)
  obtain ⟨c, a, f, m, fi, d⟩ := h
  unfold hdV
  have HB := Lib.hid (Blk.made w 6 96 (fun j => if j = 0 then .int .i64 c else if j = 1 then .int .i64 a else if j = 2 then .int .i64 f else if j = 3 then .bool m else if j = 4 then .bool fi else .bool d) #[.int .i64 c, .int .i64 a, .int .i64 f, .bool m, .bool fi, .bool d] rfl (fun j hj => by rcases (by omega : j = 0 ∨ j = 1 ∨ j = 2 ∨ j = 3 ∨ j = 4 ∨ j = 5) with rfl | rfl | rfl | rfl | rfl | rfl <;> rfl))
  have HK := Lib.hid ((Touch.refl (fun _ => False) w).alloc (.cells #[.int .i64 c, .int .i64 a, .int .i64 f, .bool m, .bool fi, .bool d] 96))
  have hq : decide (Hd.ok ⟨c, a, f, m, fi, d⟩) = (decide (0 ≤ c ∧ c < 64) && (decide (0 ≤ a ∧ a < 8) && (decide (0 ≤ f ∧ f < 4096) && !(fi && d)))) := by
    unfold Hd.ok
    cases fi <;> cases d <;> simp [Bool.decide_and]
  rw [hq]
  clear hq
  go_enter Try.func84, Try.ntmps84
  go_wp2_with fail
  refine (HW.out _ _ _).mono ?_
  rintro r w1 ⟨rfl, rfl⟩
  have d1 := HB.out.cell (j := 1) (by omega)
  have d2 := HB.out.cell (j := 2) (by omega)
  have d4 := HB.out.cell (j := 4) (by omega)
  have d5 := HB.out.cell (j := 5) (by omega)
  simp at d1 d2 d4 d5
  cases hc1 : decide (0 ≤ c ∧ c < 64) with
  | false =>
    have H1 := Lib.hid hc1
    clear hc1
    go_wp2_with fail
    go_ret
    exact ⟨by rw [H1.out]; rfl, HK.out⟩
  | true =>
    have H1 := Lib.hid hc1
    clear hc1
    go_wp2_with fail
    refine (HW.out _ _ _).mono ?_
    rintro r w1 ⟨rfl, rfl⟩
    cases hc1 : decide (0 ≤ a ∧ a < 8) with
    | false =>
      have H2 := Lib.hid hc1
      clear hc1
      go_wp2_with fail
      go_ret
      exact ⟨by rw [H1.out, H2.out]; rfl, HK.out⟩
    | true =>
      have H2 := Lib.hid hc1
      clear hc1
      go_wp2_with fail
      refine (HW.out _ _ _).mono ?_
      rintro r w1 ⟨rfl, rfl⟩
      cases hc1 : decide (0 ≤ f ∧ f < 4096) with
      | false =>
        have H3 := Lib.hid hc1
        clear hc1
        go_wp2_with fail
        go_ret
        exact ⟨by rw [H1.out, H2.out, H3.out]; rfl, HK.out⟩
      | true =>
        have H3 := Lib.hid hc1
        clear hc1
        cases fi with
        | false =>
          go_wp2_with fail
          go_ret
          exact ⟨by rw [H1.out, H2.out, H3.out]; rfl, HK.out⟩
        | true =>
          go_wp2_with fail
          go_ret
          exact ⟨by rw [H1.out, H2.out, H3.out]; rfl, HK.out⟩

end Go.Proofs.Ytabfbgkablbeeaa
