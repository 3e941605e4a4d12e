/- The methods of handle.Table by contracts: find, New, Get, Set, Drop. -/
import Derived.Test.YtnjjecojedlccaaBase
namespace Go.Proofs.Ytnjjecojedlccaa
open Go.RowKit

structure Pl where
  n : Int
  on : Bool
  x : Int

def tabF (T : Nat → Pl) : Nat → Value := fun j =>
  if j % 3 = 0 then .int .i64 (T (j / 3)).n else if j % 3 = 1 then .bool (T (j / 3)).on else .int .i64 (T (j / 3)).x
abbrev Tab (w : World) (b : Nat) (T : Nat → Pl) : Prop := Blk w b 29 192 (tabF T)
def WF (T : Nat → Pl) (N : Int) : Prop := N ≤ 100000 ∧ ∀ i, i < 64 → 0 ≤ (T i).n ∧ (T i).n ≤ N ∧ ((T i).on = true → 1 ≤ (T i).n)
def hnd (p : Pl) (i : Nat) : Int := 64 * (p.n - 1) + i + 1
def setT (T : Nat → Pl) (i : Nat) (p : Pl) : Nat → Pl := fun j => if j = i then p else T j

section
variable {w : World} {b : Nat} {T : Nat → Pl}
theorem tab0 (h : Tab w b T) {i : Nat} (hi : i < 64) : w.cell? ⟨b, i * 3, none⟩ = some (.int .i64 (T i).n) := by
  rw [Blk.cell h (by omega)]; simp [tabF]
theorem tab1 (h : Tab w b T) {i : Nat} (hi : i < 64) : w.cell? ⟨b, i * 3 + 1, none⟩ = some (.bool (T i).on) := by
  rw [Blk.cell h (by omega)]
  have e : (i * 3 + 1) / 3 = i := by omega
  have e' : (i * 3 + 1) % 3 = 1 := by omega
  simp [tabF, e, e']
theorem tab2 (h : Tab w b T) {i : Nat} (hi : i < 64) : w.cell? ⟨b, i * 3 + 2, none⟩ = some (.int .i64 (T i).x) := by
  rw [Blk.cell h (by omega)]
  have e : (i * 3 + 2) / 3 = i := by omega
  have e' : (i * 3 + 2) % 3 = 2 := by omega
  simp [tabF, e, e']
theorem tabSet (h : Tab w b T) {i : Nat} (p : Pl) :
    Tab (((w.setCell ⟨b, i * 3, none⟩ (.int .i64 p.n)).setCell ⟨b, i * 3 + 1, none⟩ (.bool p.on)).setCell ⟨b, i * 3 + 2, none⟩ (.int .i64 p.x)) b (setT T i p) := by
  refine (((Blk.set h _ _).set _ _).set _ _).congr fun j hj => ?_
  unfold upd tabF setT
  by_cases e : j / 3 = i
  · rcases (by omega : j = i * 3 ∨ j = i * 3 + 1 ∨ j = i * 3 + 2) with rfl | rfl | rfl
    · simp
    · have e' : (i * 3 + 1) % 3 = 1 := by omega
      simp [e, e']
    · have e' : (i * 3 + 2) % 3 = 2 := by omega
      simp [e, e']
  · rw [if_neg (by omega), if_neg (by omega), if_neg (by omega), if_neg e]
theorem tabSet2 (h : Tab w b T) {i : Nat} (x : Int) :
    Tab (w.setCell ⟨b, i * 3 + 2, none⟩ (.int .i64 x)) b (setT T i { T i with x := x }) := by
  refine (Blk.set h _ _).congr fun j hj => ?_
  unfold upd tabF setT
  by_cases e : j / 3 = i
  · rcases (by omega : j = i * 3 ∨ j = i * 3 + 1 ∨ j = i * 3 + 2) with rfl | rfl | rfl
    · simp
    · have e' : (i * 3 + 1) % 3 = 1 := by omega
      simp [e, e']
    · have e' : (i * 3 + 2) % 3 = 2 := by omega
      simp [e, e']
  · rw [if_neg (by omega), if_neg e]
theorem tabDrop (h : Tab w b T) {i : Nat} :
    Tab ((w.setCell ⟨b, i * 3 + 1, none⟩ (.bool false)).setCell ⟨b, i * 3 + 2, none⟩ (.int .i64 0)) b (setT T i ⟨(T i).n, false, 0⟩) := by
  refine ((Blk.set h _ _).set _ _).congr fun j hj => ?_
  unfold upd tabF setT
  by_cases e : j / 3 = i
  · rcases (by omega : j = i * 3 ∨ j = i * 3 + 1 ∨ j = i * 3 + 2) with rfl | rfl | rfl
    · simp
    · have e' : (i * 3 + 1) % 3 = 1 := by omega
      simp [e, e']
    · have e' : (i * 3 + 2) % 3 = 2 := by omega
      simp [e, e']
  · rw [if_neg (by omega), if_neg (by omega), if_neg e]
end

theorem handle_any (n : Int) (on : Bool) (x at_ : Int) (w : World) (h1 : 1 ≤ n) (h2 : n ≤ 100000) (h3 : 0 ≤ at_) (h4 : at_ < 64) :
    Calls Try.prog 24 #[.agg #[.int .i64 n, .bool on, .int .i64 x], .int .i64 at_] w fun e w' =>
      e = .returned (.int .i64 (64 * (n - 1) + at_ + 1)) ∧ (w.alloc (.cells #[.int .i64 n, .bool on, .int .i64 x] 26)) = w' := by
  go_enter Try.func24, Try.ntmps24
  go_wp2
  go_ret
  exact ⟨rfl, rfl⟩

/-- The place of a handle; none. -/
def findT (T : Nat → Pl) (h : Int) : Option Nat :=
  if 1 ≤ h ∧ (T ((h - 1) % 64).toNat).on = true ∧ hnd (T ((h - 1) % 64).toNat) ((h - 1) % 64).toNat = h then some ((h - 1) % 64).toNat else none
def ptrOf (b : Nat) : Option Nat → Value
  | none => .pointer none
  | some i => .pointer (some ⟨b, i * 3, none⟩)

theorem findT_lt {T : Nat → Pl} {h : Int} {i : Nat} (e : findT T h = some i) : i < 64 := by
  unfold findT at e; split at e
  · simp at e; omega
  · cases e

set_option maxHeartbeats 400000 in
theorem find_any (b : Nat) (T : Nat → Pl) (h : Int) (w : World) (N : Int) (hT : Tab w b T) (hw : WF T N) (hl : -9223372036854775808 ≤ h) (hh : h ≤ 9223372036854775807) :
    Calls Try.prog 25 #[.pointer (some ⟨b, 0, none⟩), .int .i64 h] w fun e w' => e = .returned (ptrOf b (findT T h)) ∧ Keeps w w' := by
  by_cases h1 : 1 ≤ h
  · obtain ⟨i, hi, hi'⟩ : ∃ i : Nat, i < 64 ∧ (h - 1) % 64 = (i : Int) := ⟨((h - 1) % 64).toNat, by omega, by omega⟩
    have hi2 : ((h - 1) % 64).toNat = i := by omega
    have c0 := tab0 hT hi
    have c1 := tab1 hT hi
    have c2 := tab2 hT hi
    obtain ⟨w0, w1⟩ := hw
    obtain ⟨w2, w3, w4⟩ := w1 i hi
    unfold findT
    rw [hi2]
    have HI := Lib.hid hi'
    clear hi' hi2 w1 hT
    cases hon : (T i).on with
    | true =>
      rw [hon] at c1 w4
      have w5 := w4 rfl
      clear w4
      by_cases heq : hnd (T i) i = h
      · rw [if_pos ⟨h1, rfl, heq⟩]
        unfold hnd at heq
        have HE : Hid _ := heq
        clear heq
        have hb : (64 * ((T i).n - 1) + (i : Int) + 1 != h) = false := by simp [HE.out]
        have hi' := HI.out
        go_enter Try.func25, Try.ntmps25
        go_wp2_with fail
        refine (handle_any _ _ _ _ _ w5 (by omega) (by omega) (by omega)).mono ?_
        rintro e w' ⟨rfl, rfl⟩
        go_wp2
        go_ret
        exact ⟨rfl, (Touch.refl _ _).alloc _⟩
      · rw [if_neg (fun k => heq k.2.2)]
        unfold hnd at heq
        have hb : (64 * ((T i).n - 1) + (i : Int) + 1 != h) = true := by simp [heq]
        have hi' := HI.out
        go_enter Try.func25, Try.ntmps25
        go_wp2_with fail
        refine (handle_any _ _ _ _ _ w5 (by omega) (by omega) (by omega)).mono ?_
        rintro e w' ⟨rfl, rfl⟩
        go_wp2
        go_ret
        exact ⟨rfl, (Touch.refl _ _).alloc _⟩
    | false =>
      rw [hon] at c1
      rw [if_neg (by simp)]
      have hi' := HI.out
      go_enter Try.func25, Try.ntmps25
      go_wp2_with fail
      go_ret
      exact ⟨rfl, Touch.refl _ _⟩
  · unfold findT
    rw [if_neg (fun k => h1 k.1)]
    go_enter Try.func25, Try.ntmps25
    go_wp2_with fail
    go_ret
    exact ⟨rfl, Touch.refl _ _⟩

end Go.Proofs.Ytnjjecojedlccaa
