/- Layer 5, class: Words; a nil table. -/
import Derived.Test.YtnijlddmbemnoaaCls
namespace Go.Proofs.Ytnijlddmbemnoaa
open Go.RowKit

def shW (C : Nat → Cl) (m : Nat) (a len : Int) : Int := if shE C m a len = 0 then 2 + shR C m a len + shD C m a len else 0
theorem sh_bd {C : Nat → Cl} {m : Nat} (hok : ∀ j, j < m → (C j).ok) {a len : Int} (h : shE C m a len = 0) : 0 ≤ shR C m a len ∧ shR C m a len ≤ 60 ∧ 0 ≤ shD C m a len ∧ shD C m a len ≤ 30 := by
  unfold shR shD
  rw [if_pos h, if_pos h]
  unfold shE at h
  by_cases h1 : ¬ (1 ≤ a ∧ a ≤ m)
  · rw [if_pos h1] at h; cases h
  · rw [if_neg h1] at h
    by_cases h2 : len < 0 ∨ (0 < len ∧ (C (a - 1).toNat).kind ≠ 2)
    · rw [if_pos h2] at h; cases h
    · rw [if_neg h2] at h
      by_cases h3 : 30 < len
      · rw [if_pos h3] at h; cases h
      · obtain ⟨o1, o2, o3, o4, o5⟩ := hok (a - 1).toNat (by omega)
        have : ¬ len < 0 := fun h => h2 (.inl h)
        omega
theorem words_any (bt : Nat) (A : Option Addr) (m cap : Nat) (C : Nat → Cl) (w : World) (h : Tb w bt A m cap C) (a len : Int) :
    Calls Try.prog 31 #[.pointer (some ⟨bt, 0, none⟩), .int .i64 a, .int .i64 len] w fun e w' => e = .returned (.tuple #[.int .i64 (shW C m a len), .int .i64 (shE C m a len)]) ∧ Keeps w w' := by
  have HS := Lib.hid (shape_any bt A m cap C w h a len)
  have hbd := sh_bd (a := a) (len := len) h.ok
  unfold shW
  generalize shR C m a len = r at *
  generalize shD C m a len = d at *
  generalize shE C m a len = x at *
  clear h
  by_cases hx : x = 0
  · subst hx
    obtain ⟨h1, h2, h3, h4⟩ := hbd rfl
    clear hbd
    rw [if_pos rfl]
    have w1 : IntKind.i64.wrap (2 + r) = 2 + r := IntWalk.i64_in _ ⟨by omega, by omega⟩
    have w2 : IntKind.i64.wrap (2 + r + d) = 2 + r + d := IntWalk.i64_in _ ⟨by omega, by omega⟩
    go_enter Try.func31, Try.ntmps31
    go_wp2_with fail
    refine Calls.mono HS.out ?_
    rintro e w1 ⟨rfl, k1⟩
    go_wp2_with fail
    go_returns
    exact ⟨rfl, k1⟩
  · rw [if_neg hx]
    have hx' : (x != 0) = true := by simpa using hx
    clear hbd hx
    go_enter Try.func31, Try.ntmps31
    go_wp2_with fail
    refine Calls.mono HS.out ?_
    rintro e w1 ⟨rfl, k1⟩
    go_wp2_with fail
    go_returns
    exact ⟨rfl, k1⟩

/-! ### a nil table -/
theorem of_nil (w : World) (a : Int) :
    Calls Try.prog 33 #[.pointer none, .int .i64 a] w fun e w' => e = .returned (.tuple #[clV cl0, .int .i64 4]) ∧ Keeps w w' := by
  have hz := zero_cl
  have HL := Lib.hid (fun w => clen_nil w)
  have HK := Lib.hid ((Touch.refl (fun _ => False) w).alloc (.cells #[.int .i64 0, .int .i64 0, .int .i64 0, .bool false] 45))
  by_cases h1 : a < 1
  · go_enter Try.func33, Try.ntmps33
    go_wp2_with fail
    exact bodyPost_ret (v := .tuple #[clV cl0, .int .i64 4]) (by simp [results, Try.results33, go_sem, clV, cl0]) rfl ⟨rfl, HK.out⟩
  · have i2 : (0 : Int) < a := by omega
    go_enter Try.func33, Try.ntmps33
    go_wp2_with fail
    refine (HL.out _).mono ?_
    rintro e w1 ⟨rfl, rfl⟩
    go_wp2_with fail
    exact bodyPost_ret (v := .tuple #[clV cl0, .int .i64 4]) (by simp [results, Try.results33, go_sem, clV, cl0]) rfl ⟨rfl, HK.out⟩
theorem shape_nil (w : World) (a len : Int) :
    Calls Try.prog 49 #[.pointer none, .int .i64 a, .int .i64 len] w fun e w' => e = .returned (.tuple #[.int .i64 0, .int .i64 0, .int .i64 4]) ∧ Keeps w w' := by
  have hz := zero_cl
  have HO := Lib.hid (of_nil w a)
  unfold clV cl0 at HO
  go_enter Try.func49, Try.ntmps49
  go_wp2_with fail
  refine Calls.mono HO.out ?_
  rintro e w1 ⟨rfl, k1⟩
  go_wp2_with fail
  go_returns
  exact ⟨rfl, k1.alloc _⟩
theorem words_nil (w : World) (a len : Int) :
    Calls Try.prog 31 #[.pointer none, .int .i64 a, .int .i64 len] w fun e w' => e = .returned (.tuple #[.int .i64 0, .int .i64 4]) ∧ Keeps w w' := by
  have HO := Lib.hid (shape_nil w a len)
  go_enter Try.func31, Try.ntmps31
  go_wp2_with fail
  refine Calls.mono HO.out ?_
  rintro e w1 ⟨rfl, k1⟩
  go_wp2_with fail
  go_returns
  exact ⟨rfl, k1⟩

end Go.Proofs.Ytnijlddmbemnoaa
