/- The methods of handle.Table by contracts: Get, Set, Drop, New. -/
import Derived.Test.YtnjjecojedlccaaHan1
namespace Go.Proofs.Ytnjjecojedlccaa
open Go.RowKit

def getX (T : Nat → Pl) (h : Int) : Int :=
  match findT T h with
  | none => 0
  | some i => (T i).x
def errE (T : Nat → Pl) (h : Int) : Int :=
  match findT T h with
  | none => 6
  | some _ => 0

set_option maxHeartbeats 400000 in
theorem get_any (b : Nat) (T : Nat → Pl) (h : Int) (w : World) (N : Int) (hT : Tab w b T) (hw : WF T N) (hl : -9223372036854775808 ≤ h) (hh : h ≤ 9223372036854775807) :
    Calls Try.prog 15 #[.pointer (some ⟨b, 0, none⟩), .int .i64 h] w fun e w' => e = .returned (.tuple #[.int .i64 (getX T h), .int .i64 (errE T h)]) ∧ Keeps w w' := by
  have hf := find_any b T h w N hT hw hl hh
  unfold getX errE
  cases e : findT T h with
  | none =>
    rw [e] at hf
    unfold ptrOf at hf
    have HF : Hid _ := hf
    clear hf e
    go_enter Try.func15, Try.ntmps15
    go_wp2_with fail
    refine Calls.mono HF.out ?_
    rintro e w1 ⟨rfl, ht⟩
    go_wp2
    go_ret2
    exact ⟨rfl, ht⟩
  | some i =>
    rw [e] at hf
    have hi := findT_lt e
    unfold ptrOf at hf
    have HF : Hid _ := hf
    clear hf e
    go_enter Try.func15, Try.ntmps15
    go_wp2_with fail
    refine Calls.mono HF.out ?_
    rintro e w1 ⟨rfl, ht⟩
    have c2 := tab2 (Blk.touch hT ht (fun k => k)) hi
    go_wp2
    go_ret2
    exact ⟨rfl, ht⟩

/-- What Set leaves. -/
def setX (T : Nat → Pl) (h x : Int) : Nat → Pl :=
  match findT T h with
  | none => T
  | some i => setT T i { T i with x := x }
/-- What Drop leaves. -/
def dropT (T : Nat → Pl) (h : Int) : Nat → Pl :=
  match findT T h with
  | none => T
  | some i => setT T i ⟨(T i).n, false, 0⟩

set_option maxHeartbeats 400000 in
theorem set_any (b : Nat) (T : Nat → Pl) (h x : Int) (w : World) (N : Int) (hT : Tab w b T) (hw : WF T N) (hl : -9223372036854775808 ≤ h) (hh : h ≤ 9223372036854775807) :
    Calls Try.prog 14 #[.pointer (some ⟨b, 0, none⟩), .int .i64 h, .int .i64 x] w fun e w' => e = .returned (.int .i64 (errE T h)) ∧ Tab w' b (setX T h x) ∧ Only b w w' := by
  have hf := find_any b T h w N hT hw hl hh
  unfold errE setX
  cases e : findT T h with
  | none =>
    rw [e] at hf
    unfold ptrOf at hf
    have HF : Hid _ := hf
    clear hf e
    go_enter Try.func14, Try.ntmps14
    go_wp2_with fail
    refine Calls.mono HF.out ?_
    rintro e w1 ⟨rfl, ht⟩
    go_wp2
    go_ret
    exact ⟨rfl, Blk.touch hT ht (fun k => k), ht.only⟩
  | some i =>
    rw [e] at hf
    have hi := findT_lt e
    unfold ptrOf at hf
    have HF : Hid _ := hf
    clear hf e
    go_enter Try.func14, Try.ntmps14
    go_wp2_with fail
    refine Calls.mono HF.out ?_
    rintro e w1 ⟨rfl, ht⟩
    have hT' := Blk.touch hT ht (fun k => k)
    have c2 := tab2 hT' hi
    have f2 := Blk.frozen hT' (i * 3 + 2)
    go_wp2
    go_ret
    exact ⟨rfl, tabSet2 hT' x, ht.only.set _ _⟩

set_option maxHeartbeats 400000 in
theorem drop_any (b : Nat) (T : Nat → Pl) (h : Int) (w : World) (N : Int) (hT : Tab w b T) (hw : WF T N) (hl : -9223372036854775808 ≤ h) (hh : h ≤ 9223372036854775807) :
    Calls Try.prog 12 #[.pointer (some ⟨b, 0, none⟩), .int .i64 h] w fun e w' => e = .returned (.int .i64 (errE T h)) ∧ Tab w' b (dropT T h) ∧ Only b w w' := by
  have hf := find_any b T h w N hT hw hl hh
  unfold errE dropT
  cases e : findT T h with
  | none =>
    rw [e] at hf
    unfold ptrOf at hf
    have HF : Hid _ := hf
    clear hf e
    go_enter Try.func12, Try.ntmps12
    go_wp2_with fail
    refine Calls.mono HF.out ?_
    rintro e w1 ⟨rfl, ht⟩
    go_wp2
    go_ret
    exact ⟨rfl, Blk.touch hT ht (fun k => k), ht.only⟩
  | some i =>
    rw [e] at hf
    have hi := findT_lt e
    unfold ptrOf at hf
    have HF : Hid _ := hf
    clear hf e
    go_enter Try.func12, Try.ntmps12
    go_wp2_with fail
    refine Calls.mono HF.out ?_
    rintro e w1 ⟨rfl, ht⟩
    have hT' := Blk.touch hT ht (fun k => k)
    have c1 := tab1 hT' hi
    have f1 := Blk.frozen hT' (i * 3 + 1)
    have c2 := tab2 hT' hi
    have f2 := Blk.frozen hT' (i * 3 + 2)
    go_wp2
    go_ret
    exact ⟨rfl, tabDrop hT', (ht.only.set _ _).set _ _⟩

/-- The least place that is free, from i on, of so many. -/
def freeT (T : Nat → Pl) : Nat → Nat → Option Nat
  | 0, _ => none
  | k + 1, i => if (T i).on then freeT T k (i + 1) else some i

theorem freeT_none {T : Nat → Pl} : ∀ (k i : Nat), (∀ j, i ≤ j → j < i + k → (T j).on = true) → freeT T k i = none
  | 0, _, _ => rfl
  | k + 1, i, h => by
    unfold freeT
    rw [if_pos (h i (by omega) (by omega))]
    exact freeT_none k (i + 1) fun j h1 h2 => h j (by omega) (by omega)
theorem freeT_some {T : Nat → Pl} : ∀ (k i j : Nat), i ≤ j → j < i + k → (∀ m, i ≤ m → m < j → (T m).on = true) → (T j).on = false → freeT T k i = some j
  | 0, _, _, _, _, _, _ => by omega
  | k + 1, i, j, h1, h2, h3, h4 => by
    unfold freeT
    by_cases e : i = j
    · subst e; rw [if_neg (by simp [h4])]
    · rw [if_pos (h3 i (by omega) (by omega))]
      exact freeT_some k (i + 1) j (by omega) (by omega) (fun m m1 m2 => h3 m (by omega) m2) h4

def newA (T : Nat → Pl) : Int :=
  match freeT T 64 0 with
  | none => 0
  | some i => hnd ⟨(T i).n + 1, true, 0⟩ i
def newE (T : Nat → Pl) : Int :=
  match freeT T 64 0 with
  | none => 3
  | some _ => 0
def newT (T : Nat → Pl) (x : Int) : Nat → Pl :=
  match freeT T 64 0 with
  | none => T
  | some i => setT T i ⟨(T i).n + 1, true, x⟩

set_option maxHeartbeats 400000 in
theorem new_any (b : Nat) (T : Nat → Pl) (x : Int) (w : World) (N : Int) (hT : Tab w b T) (hw : WF T N) (hN : N ≤ 99999) :
    Calls Try.prog 11 #[.pointer (some ⟨b, 0, none⟩), .int .i64 x] w fun e w' => e = .returned (.tuple #[.int .i64 (newA T), .int .i64 (newE T)]) ∧ Tab w' b (newT T x) ∧ Only b w w' := by
  obtain ⟨w0, w1⟩ := hw
  go_enter Try.func11, Try.ntmps11
  go_wp2_with fail
  go_loop [10] (fun i => ∃ k : Nat, k ≤ 64 ∧ i = .int .i64 k ∧ ∀ m, m < k → (T m).on = true) (fun i => 64 - (intOf i).toNat)
  case atStart => exact ⟨0, by omega, rfl, fun m h => by omega⟩
  case round =>
    obtain ⟨k, hk, rfl, hm⟩ := hrel
    have HM := Lib.hid hm
    clear hm
    by_cases hlt : k < 64
    · have c0 := tab0 hT hlt
      have c1 := tab1 hT hlt
      have c2 := tab2 hT hlt
      have f0 := Blk.frozen hT (k * 3)
      have f1 := Blk.frozen hT (k * 3 + 1)
      have f2 := Blk.frozen hT (k * 3 + 2)
      obtain ⟨w2, w3, w4⟩ := w1 k hlt
      clear w1
      cases hon : (T k).on with
      | true =>
        rw [hon] at c1
        have H3 := Lib.hid hon
        clear hon w4
        go_wp2_with fail
        go_round
        case rel => exact ⟨k + 1, by omega, by go_num, fun m h => by
          rcases (by omega : m < k ∨ m = k) with h' | rfl
          · exact HM.out m h'
          · exact H3.out⟩
        case measure => simp [intOf]; omega
      | false =>
        rw [hon] at c1
        have hfr : freeT T 64 0 = some k := freeT_some 64 0 k (by omega) (by omega) (fun m _ h => HM.out m h) hon
        have H3 := Lib.hid hfr
        clear hfr hon w4
        go_wp2_with fail
        refine (handle_any _ _ _ _ _ (by omega) (by omega) (by omega) (by omega)).mono ?_
        rintro e w' ⟨rfl, rfl⟩
        go_wp2
        go_ret2
        refine ⟨by simp [newA, newE, H3.out, hnd], ?_, ?_⟩
        · unfold newT
          rw [H3.out]
          exact Blk.alloc (tabSet hT ⟨(T k).n + 1, true, x⟩) _
        · exact ((((Only.refl b w).set _ _).set _ _).set _ _).alloc _
    · have hfr : freeT T 64 0 = none := freeT_none 64 0 (fun m _ h => HM.out m (by omega))
      have H3 := Lib.hid hfr
      clear hfr w1
      go_wp2_with fail
      go_ret2
      refine ⟨by simp [newA, newE, H3.out], ?_, Touch.refl _ _⟩
      unfold newT
      rw [H3.out]
      exact hT

end Go.Proofs.Ytnjjecojedlccaa
