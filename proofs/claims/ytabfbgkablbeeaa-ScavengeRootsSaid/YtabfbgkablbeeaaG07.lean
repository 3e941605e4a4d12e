/- Layer 6, object: the store; what is there; things. -/
import Derived.Test.YtabfbgkablbeeaaG01
import Derived.Test.YtabfbgkablbeeaaG04
import Derived.Test.YtabfbgkablbeeaaG06
set_option linter.all false

namespace Go.Proofs.Ytabfbgkablbeeaa
open Go.RowKit

/-- A store: an arena and a table, which share no block. -/
structure St (w : World) (ba bw n : Nat) (f : Nat → Int) (bt : Nat) (A : Option Addr) (m cap : Nat) (C : Nat → Cl) : Prop where
  ar : Ar w ba bw n f
  tb : Tb w bt A m cap C
  ne : bt ≠ bw
  neA : ∀ b off, A = some ⟨b, off, none⟩ → b ≠ bw
def stV (ba bt : Nat) : Value := .agg #[.pointer (some ⟨ba, 0, none⟩), .pointer (some ⟨bt, 0, none⟩)]
namespace St
variable {w w' : World} {ba bw n : Nat} {f : Nat → Int} {bt : Nat} {A : Option Addr} {m cap : Nat} {C : Nat → Cl}
theorem keep (h : St w ba bw n f bt A m cap C) (k : Keeps w w') : St w' ba bw n f bt A m cap C := ⟨h.ar.keep k, h.tb.keep k, h.ne, h.neA⟩
theorem only {g : Nat → Int} (h : St w ba bw n f bt A m cap C) (ha : Ar w' ba bw n g) (k : Only bw w w') : St w' ba bw n g bt A m cap C :=
  ⟨ha, h.tb.touch k h.ne (fun b off e => h.neA b off e), h.ne, h.neA⟩
end St

def thB (n : Nat) (a k : Int) : Bool := decide (1 ≤ a) && (decide (1 ≤ k) && (decide (a < n) && decide (k ≤ n - a)))
theorem thB_true {n : Nat} {a k : Int} : thB n a k = true ↔ 1 ≤ a ∧ 1 ≤ k ∧ a < n ∧ k ≤ n - a := by unfold thB; simp
theorem thB_false {n : Nat} {a k : Int} : thB n a k = false ↔ ¬ (1 ≤ a ∧ 1 ≤ k ∧ a < n ∧ k ≤ n - a) := by rw [← thB_true]; simp
theorem there_any (ba bw n : Nat) (f : Nat → Int) (bt : Nat) (w : World) (h : Ar w ba bw n f) (a k : Int) :
    Calls Try.prog 68 #[stV ba bt, .int .i64 a, .int .i64 k] w fun e w' => e = .returned (.bool (thB n a k)) ∧ Keeps w w' := by
  have hle := h.le
  have HL := Lib.hid (fun w' (k : Keeps w w') => alen_any ba bw n f w' (h.keep k))
  unfold stV thB
  clear h
  by_cases h1 : 1 ≤ a
  · by_cases h2 : 1 ≤ k
    · have K1 : Keeps w (w.alloc (.cells #[.pointer (some ⟨ba, 0, none⟩), .pointer (some ⟨bt, 0, none⟩)] 34)) := (Touch.refl _ w).alloc _
      by_cases h3 : a < n
      · have h4 : IntKind.i64.wrap ((n : Int) - a) = (n : Int) - a := IntWalk.i64_in _ ⟨by omega, by omega⟩
        have e1 := decide_eq_true h1
        have e2 := decide_eq_true h2
        have e3 := decide_eq_true h3
        rw [e1, e2, e3]
        clear e1 e2 e3
        go_enter Try.func68, Try.ntmps68
        go_wp2_with fail
        refine (HL.out _ (by assumption)).mono ?_
        rintro e w1 ⟨rfl, rfl⟩
        go_wp2_with fail
        refine (HL.out _ (by assumption)).mono ?_
        rintro e w1 ⟨rfl, rfl⟩
        go_wp2_with fail
        go_ret
        exact ⟨by simp, K1⟩
      · have e1 := decide_eq_true h1
        have e2 := decide_eq_true h2
        have e3 := decide_eq_false h3
        have h3' : (n : Int) ≤ a := by omega
        rw [e1, e2, e3]
        clear e1 e2 e3
        go_enter Try.func68, Try.ntmps68
        go_wp2_with fail
        refine (HL.out _ (by assumption)).mono ?_
        rintro e w1 ⟨rfl, rfl⟩
        go_wp2_with fail
        go_ret
        exact ⟨by simp, K1⟩
    · have h2' : k < 1 := by omega
      have e1 := decide_eq_true h1
      have e2 := decide_eq_false h2
      rw [e1, e2]
      clear e1 e2
      go_enter Try.func68, Try.ntmps68
      go_wp2_with fail
      go_ret
      exact ⟨by simp, (Touch.refl _ w).alloc _⟩
  · have h1' : a < 1 := by omega
    have e1 := decide_eq_false h1
    rw [e1]
    clear e1
    go_enter Try.func68, Try.ntmps68
    go_wp2_with fail
    go_ret
    exact ⟨by simp, (Touch.refl _ w).alloc _⟩

/-- A thing. -/
structure Th where
  hd : Hd
  refs : Int
  data : Int
  words : Int
def thV (t : Th) : Value := .agg #[.int .i64 t.hd.cls, .int .i64 t.hd.age, .int .i64 t.hd.fwd, .bool t.hd.mark, .bool t.hd.fin, .bool t.hd.done, .int .i64 t.refs, .int .i64 t.data, .int .i64 t.words]
theorem sz_th : (Try.prog.info? 101).map (·.size) = some 9 := by kernel_rfl
theorem sz_hd : (Try.prog.info? 96).map (·.size) = some 6 := by kernel_rfl
def th0 : Th := ⟨hd0, 0, 0, 0⟩
def Th.is (t : Th) : Bool := t.hd.cls != 0
theorem is_any (t : Th) (w : World) :
    Calls Try.prog 64 #[thV t] w fun e w' => e = .returned (.bool t.is) ∧ Keeps w w' := by
  obtain ⟨⟨c, a, fw, mk, fi, dn⟩, r, d, k⟩ := t
  unfold thV Th.is
  dsimp only
  go_enter Try.func64, Try.ntmps64
  go_wp2_with fail
  go_ret
  exact ⟨rfl, (Touch.refl _ w).alloc _⟩

end Go.Proofs.Ytabfbgkablbeeaa
