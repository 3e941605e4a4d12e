/- Layer 5, class, by contracts: a table of classes behind a pointer. -/
import Derived.Test.YtnijlddmbemnoaaMem
import Derived.Deep.QuietTactic
import Derived.BigQuiet
import Derived.Handy
namespace Go.Proofs.Ytnijlddmbemnoaa
open Go.RowKit

structure Cl where
  kind : Int
  refs : Int
  data : Int
  fin : Bool
def clF (C : Nat → Cl) : Nat → Value := fun j =>
  if j % 4 = 0 then .int .i64 (C (j / 4)).kind else if j % 4 = 1 then .int .i64 (C (j / 4)).refs else if j % 4 = 2 then .int .i64 (C (j / 4)).data else .bool (C (j / 4)).fin
def clV (c : Cl) : Value := .agg #[.int .i64 c.kind, .int .i64 c.refs, .int .i64 c.data, .bool c.fin]
def Cl.ok (c : Cl) : Prop := 0 ≤ c.refs ∧ c.refs ≤ 30 ∧ 0 ≤ c.data ∧ c.data ≤ 30 ∧ c.refs + c.data ≤ 30
/-- A table: block bt holds the classes' slice. -/
structure Tb (w : World) (bt : Nat) (A : Option Addr) (m cap : Nat) (C : Nat → Cl) : Prop where
  head : Blk w bt 83 1 (fun _ => .slice A m cap)
  body : Rd w A (m * 4) (clF C)
  le : m < 64
  ok : ∀ j, j < m → (C j).ok
theorem Tb.touch {S : Nat → Prop} {w w' : World} {bt : Nat} {A : Option Addr} {m cap : Nat} {C : Nat → Cl} (h : Tb w bt A m cap C) (ht : Touch S w w') (h1 : ¬ S bt) (h2 : ∀ b off, A = some ⟨b, off, none⟩ → ¬ S b) : Tb w' bt A m cap C :=
  ⟨h.head.touch ht h1, h.body.keepS ht h2, h.le, h.ok⟩
theorem Tb.keep {w w' : World} {bt : Nat} {A : Option Addr} {m cap : Nat} {C : Nat → Cl} (h : Tb w bt A m cap C) (ht : Keeps w w') : Tb w' bt A m cap C :=
  h.touch ht (fun h => h) (fun _ _ _ h => h)
theorem Tb.cl {w : World} {bt : Nat} {A : Option Addr} {m cap : Nat} {C : Nat → Cl} (h : Tb w bt A m cap C) {k : Nat} (hk : k < m) :
    ∃ b off, A = some ⟨b, off, none⟩ ∧ w.cell? ⟨b, off + k * 4, none⟩ = some (.int .i64 (C k).kind) ∧ w.cell? ⟨b, off + k * 4 + 1, none⟩ = some (.int .i64 (C k).refs) ∧ w.cell? ⟨b, off + k * 4 + 2, none⟩ = some (.int .i64 (C k).data) ∧ w.cell? ⟨b, off + k * 4 + 3, none⟩ = some (.bool (C k).fin) := by
  obtain ⟨b, off, e, hc⟩ := h.body.at_ (k := k) hk (by omega)
  refine ⟨b, off, e, ?_, ?_, ?_, ?_⟩
  · have := hc 0 (by omega)
    simpa [clF] using this
  · have := hc 1 (by omega)
    have e1 : (k * 4 + 1) / 4 = k := by omega
    have e2 : (k * 4 + 1) % 4 = 1 := by omega
    simpa [clF, e1, e2] using this
  · have := hc 2 (by omega)
    have e1 : (k * 4 + 2) / 4 = k := by omega
    have e2 : (k * 4 + 2) % 4 = 2 := by omega
    simpa [clF, e1, e2] using this
  · have := hc 3 (by omega)
    have e1 : (k * 4 + 3) / 4 = k := by omega
    have e2 : (k * 4 + 3) % 4 = 3 := by omega
    simpa [clF, e1, e2] using this

theorem zero_cl (w : World) : (zeroValue 45).run Try.prog w = .ok (.agg #[.int .i64 0, .int .i64 0, .int .i64 0, .bool false]) w := by kernel_rfl
theorem clen_any (bt : Nat) (A : Option Addr) (m cap : Nat) (C : Nat → Cl) (w : World) (h : Tb w bt A m cap C) :
    Calls Try.prog 51 #[.pointer (some ⟨bt, 0, none⟩)] w fun e w' => e = .returned (.int .i64 (m : Int)) ∧ w = w' := by
  have c0 : w.cell? ⟨bt, 0, none⟩ = some (.slice A m cap) := h.head.cell (j := 0) (by omega)
  go_enter Try.func51, Try.ntmps51
  go_wp2_with fail
  go_ret
  exact ⟨rfl, rfl⟩
theorem clen_nil (w : World) :
    Calls Try.prog 51 #[.pointer none] w fun e w' => e = .returned (.int .i64 0) ∧ w = w' := by
  go_enter Try.func51, Try.ntmps51
  go_wp2_with fail
  go_ret
  exact ⟨rfl, rfl⟩

def cl0 : Cl := ⟨0, 0, 0, false⟩
/-- The class of number k + 1. -/
theorem of_yes (bt : Nat) (A : Option Addr) (m cap : Nat) (C : Nat → Cl) (w : World) (h : Tb w bt A m cap C) (k : Nat) (hk : k < m) :
    Calls Try.prog 33 #[.pointer (some ⟨bt, 0, none⟩), .int .i64 ((k : Int) + 1)] w fun e w' => e = .returned (.tuple #[clV (C k), .int .i64 0]) ∧ Keeps w w' := by
  have hz := zero_cl
  have hle := h.le
  have KA : Keeps w (w.alloc (.cells #[.int .i64 0, .int .i64 0, .int .i64 0, .bool false] 45)) := (Touch.refl _ w).alloc _
  have hB := Blk.made w 4 45 (clF fun _ => cl0) #[.int .i64 0, .int .i64 0, .int .i64 0, .bool false] rfl (fun j hj => by rcases (by omega : j = 0 ∨ j = 1 ∨ j = 2 ∨ j = 3) with rfl | rfl | rfl | rfl <;> rfl)
  have hT := h.keep KA
  have HL := Lib.hid (clen_any bt A m cap C _ hT)
  have c0 : (w.alloc (.cells #[.int .i64 0, .int .i64 0, .int .i64 0, .bool false] 45)).cell? ⟨bt, 0, none⟩ = some (.slice A m cap) := hT.head.cell (j := 0) (by omega)
  obtain ⟨b, off, rfl, d0, d1, d2, d3⟩ := hT.cl hk
  have i1 : ¬ ((k : Int) + 1 < 1) := by omega
  have i2 : ¬ ((m : Int) < (k : Int) + 1) := by omega
  have hb4 := (((hB.set 0 (.int .i64 (C k).kind)).set 1 (.int .i64 (C k).refs)).set 2 (.int .i64 (C k).data)).set 3 (.bool (C k).fin)
  have g0 := hb4.cell (j := 0) (by omega)
  have g1 := hb4.cell (j := 1) (by omega)
  have g2 := hb4.cell (j := 2) (by omega)
  have g3 := hb4.cell (j := 3) (by omega)
  simp [upd] at g0 g1 g2 g3
  have e0 := hB.cell (j := 0) (by omega)
  have e1 := hB.cell (j := 1) (by omega)
  have e2 := hB.cell (j := 2) (by omega)
  have e3 := hB.cell (j := 3) (by omega)
  have f0 := hB.frozen 0
  have f1 := hB.frozen 1
  have f2 := hB.frozen 2
  have f3 := hB.frozen 3
  have KB := KA.new (((((Only.refl w.heap.size (w.alloc (.cells #[.int .i64 0, .int .i64 0, .int .i64 0, .bool false] 45))).set 0 (.int .i64 (C k).kind)).set 1 (.int .i64 (C k).refs)).set 2 (.int .i64 (C k).data)).set 3 (.bool (C k).fin)) (Nat.le_refl _)
  have HK := Lib.hid KB
  clear h hT hB hb4 KA KB
  go_enter Try.func33, Try.ntmps33
  go_wp2_with fail
  refine Calls.mono HL.out ?_
  rintro e w1 ⟨rfl, rfl⟩
  clear hz
  generalize w.alloc (.cells #[.int .i64 0, .int .i64 0, .int .i64 0, .bool false] 45) = wA at *
  go_wp2_with fail
  exact bodyPost_ret (v := .tuple #[clV (C k), .int .i64 0]) (by simp [results, Try.results33, go_sem, clV, g0, g1, g2, g3]) rfl ⟨rfl, HK.out⟩
/-- No class of that number. -/
theorem of_no (bt : Nat) (A : Option Addr) (m cap : Nat) (C : Nat → Cl) (w : World) (h : Tb w bt A m cap C) (a : Int) (hno : ¬ (1 ≤ a ∧ a ≤ m)) :
    Calls Try.prog 33 #[.pointer (some ⟨bt, 0, none⟩), .int .i64 a] w fun e w' => e = .returned (.tuple #[clV cl0, .int .i64 4]) ∧ Keeps w w' := by
  have hz := zero_cl
  have KA : Keeps w (w.alloc (.cells #[.int .i64 0, .int .i64 0, .int .i64 0, .bool false] 45)) := (Touch.refl _ w).alloc _
  have hT := h.keep KA
  have HL := Lib.hid (clen_any bt A m cap C _ hT)
  have HK := Lib.hid KA
  clear h hT KA
  by_cases h1 : a < 1
  · clear hno
    go_enter Try.func33, Try.ntmps33
    go_wp2_with fail
    exact bodyPost_ret (v := .tuple #[clV cl0, .int .i64 4]) (by simp [results, Try.results33, go_sem, clV, cl0]) rfl ⟨rfl, HK.out⟩
  · have i2 : (m : Int) < a := by omega
    clear hno
    go_enter Try.func33, Try.ntmps33
    go_wp2_with fail
    refine Calls.mono HL.out ?_
    rintro e w1 ⟨rfl, rfl⟩
    go_wp2_with fail
    exact bodyPost_ret (v := .tuple #[clV cl0, .int .i64 4]) (by simp [results, Try.results33, go_sem, clV, cl0]) rfl ⟨rfl, HK.out⟩

/-- What Shape answers: its error; what an object has. -/
def shE (C : Nat → Cl) (m : Nat) (a len : Int) : Int :=
  if ¬ (1 ≤ a ∧ a ≤ m) then 4 else if len < 0 ∨ (0 < len ∧ (C (a - 1).toNat).kind ≠ 2) then 1 else if 30 < len then 8 else 0
def shR (C : Nat → Cl) (m : Nat) (a len : Int) : Int := if shE C m a len = 0 then (C (a - 1).toNat).refs + len else 0
def shD (C : Nat → Cl) (m : Nat) (a len : Int) : Int := if shE C m a len = 0 then (C (a - 1).toNat).data else 0

theorem shape_any (bt : Nat) (A : Option Addr) (m cap : Nat) (C : Nat → Cl) (w : World) (h : Tb w bt A m cap C) (a len : Int) :
    Calls Try.prog 49 #[.pointer (some ⟨bt, 0, none⟩), .int .i64 a, .int .i64 len] w fun e w' => e = .returned (.tuple #[.int .i64 (shR C m a len), .int .i64 (shD C m a len), .int .i64 (shE C m a len)]) ∧ Keeps w w' := by
  have hz := zero_cl
  by_cases ha : 1 ≤ a ∧ a ≤ m
  · obtain ⟨k, hk, rfl⟩ : ∃ k : Nat, k < m ∧ a = (k : Int) + 1 := ⟨(a - 1).toNat, by omega, by omega⟩
    have hkk : ((k : Int) + 1 - 1).toNat = k := by omega
    have HO := Lib.hid (of_yes bt A m cap C w h k hk)
    obtain ⟨o1, o2, o3, o4, o5⟩ := h.ok k hk
    unfold shR shD
    have hE : shE C m ((k : Int) + 1) len = if len < 0 ∨ (0 < len ∧ (C k).kind ≠ 2) then 1 else if 30 < len then 8 else 0 := by
      unfold shE
      rw [if_neg (by simpa using ha), hkk]
    rw [hkk, hE]
    clear hE hkk ha h
    generalize C k = c at *
    obtain ⟨ck, cr, cd, cf⟩ := c
    unfold clV at HO
    dsimp only at *
    by_cases h1 : len < 0
    · have hEv : (if len < 0 ∨ (0 < len ∧ ck ≠ 2) then (1 : Int) else if 30 < len then 8 else 0) = 1 := if_pos (.inl h1)
      rw [hEv, if_neg (by decide), if_neg (by decide)]
      clear hEv
      go_enter Try.func49, Try.ntmps49
      go_wp2_with fail
      refine Calls.mono HO.out ?_
      rintro e w1 ⟨rfl, k1⟩
      go_wp2_with fail
      go_returns
      exact ⟨rfl, k1.alloc _⟩
    · by_cases h2 : 0 < len ∧ ck ≠ 2
      · have hEv : (if len < 0 ∨ (0 < len ∧ ck ≠ 2) then (1 : Int) else if 30 < len then 8 else 0) = 1 := if_pos (.inr h2)
        rw [hEv, if_neg (by decide), if_neg (by decide)]
        clear hEv
        obtain ⟨h3, h4⟩ := h2
        have h5 : (ck != 2) = true := by simpa using h4
        clear h4
        go_enter Try.func49, Try.ntmps49
        go_wp2_with fail
        refine Calls.mono HO.out ?_
        rintro e w1 ⟨rfl, k1⟩
        go_wp2_with fail
        go_returns
        exact ⟨rfl, k1.alloc _⟩
      · have h5 : (decide (0 < len) && (ck != 2)) = false := by
          by_cases h6 : 0 < len
          · have : ck = 2 := Classical.byContradiction fun h => h2 ⟨h6, h⟩
            simp [this]
          · simp [h6]
        by_cases h3 : 30 < len
        · have hEv : (if len < 0 ∨ (0 < len ∧ ck ≠ 2) then (1 : Int) else if 30 < len then 8 else 0) = 8 := by
            rw [if_neg (fun h => h.elim h1 h2), if_pos h3]
          rw [hEv, if_neg (by decide), if_neg (by decide)]
          clear hEv h5
          have h7 : (ck != 2) = false := by
            have : ck = 2 := Classical.byContradiction fun h => h2 ⟨by omega, h⟩
            simp [this]
          have h8 : 0 < len := by omega
          clear h2
          go_enter Try.func49, Try.ntmps49
          go_wp2_with fail
          refine Calls.mono HO.out ?_
          rintro e w1 ⟨rfl, k1⟩
          go_wp2_with fail
          go_returns
          exact ⟨rfl, k1.alloc _⟩
        · have hEv : (if len < 0 ∨ (0 < len ∧ ck ≠ 2) then (1 : Int) else if 30 < len then 8 else 0) = 0 := by
            rw [if_neg (fun h => h.elim h1 h2), if_neg h3]
          rw [hEv, if_pos rfl, if_pos rfl]
          clear hEv h5
          by_cases h6 : 0 < len
          · have h7 : (ck != 2) = false := by
              have : ck = 2 := Classical.byContradiction fun h => h2 ⟨h6, h⟩
              simp [this]
            clear h2
            have h9 : IntKind.i64.wrap (cr + len) = cr + len := IntWalk.i64_in _ ⟨by omega, by omega⟩
            go_enter Try.func49, Try.ntmps49
            go_wp2_with fail
            refine Calls.mono HO.out ?_
            rintro e w1 ⟨rfl, k1⟩
            go_wp2_with fail
            go_quiet (fail)
            go_wp2_with fail
            go_returns
            exact ⟨rfl, (k1.alloc _).drewN _⟩
          · have h7 : len = 0 := by omega
            subst h7
            clear h2
            have h9 : IntKind.i64.wrap cr = cr := IntWalk.i64_in _ ⟨by omega, by omega⟩
            go_enter Try.func49, Try.ntmps49
            go_wp2_with fail
            refine Calls.mono HO.out ?_
            rintro e w1 ⟨rfl, k1⟩
            go_wp2_with fail
            go_quiet (fail)
            go_wp2_with fail
            go_returns
            exact ⟨by rw [Int.add_zero]; rfl, (k1.alloc _).drewN _⟩
  · have HO := Lib.hid (of_no bt A m cap C w h a ha)
    have hE : shE C m a len = 4 := if_pos ha
    unfold shR shD
    rw [hE, if_neg (by decide), if_neg (by decide)]
    unfold clV cl0 at HO
    clear hE ha h
    go_enter Try.func49, Try.ntmps49
    go_wp2_with fail
    refine Calls.mono HO.out ?_
    rintro e w1 ⟨rfl, k1⟩
    go_wp2_with fail
    go_returns
    exact ⟨rfl, k1.alloc _⟩

end Go.Proofs.Ytnijlddmbemnoaa
