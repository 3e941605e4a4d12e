/- The law HandleKeeps: the walk. -/
import Derived.Test.YtnjjecojedlccaaHan4
import Derived.Test.YtnjjecojedlccaaOpen
import Derived.StillTailTactics
namespace Go.Proofs.Ytnjjecojedlccaa
open Go.RowKit

structure OpR where
  kind : Int
  h : Int
  x : Int
  own : Bool
def opF (L : Nat → OpR) : Nat → Value := fun j =>
  if j % 4 = 0 then .int .i64 (L (j / 4)).kind else if j % 4 = 1 then .int .i64 (L (j / 4)).h else if j % 4 = 2 then .int .i64 (L (j / 4)).x else .bool (L (j / 4)).own
theorem Rd.op {w : World} {A : Option Addr} {m k : Nat} {L : Nat → OpR} (h : Rd w A (m * 4) (opF L)) (hk : k < m) :
    ∃ b off, A = some ⟨b, off, none⟩ ∧ w.cell? ⟨b, off + k * 4, none⟩ = some (.int .i64 (L k).kind) ∧ w.cell? ⟨b, off + k * 4 + 1, none⟩ = some (.int .i64 (L k).h) ∧
      w.cell? ⟨b, off + k * 4 + 2, none⟩ = some (.int .i64 (L k).x) ∧ w.cell? ⟨b, off + k * 4 + 3, none⟩ = some (.bool (L k).own) := by
  obtain ⟨b, off, e, hc⟩ := h.at_ hk (by omega)
  have d0 : (k * 4) / 4 = k := by omega
  have d1 : (k * 4 + 1) / 4 = k := by omega
  have d2 : (k * 4 + 2) / 4 = k := by omega
  have d3 : (k * 4 + 3) / 4 = k := by omega
  have m1 : (k * 4 + 1) % 4 = 1 := by omega
  have m2 : (k * 4 + 2) % 4 = 2 := by omega
  have m3 : (k * 4 + 3) % 4 = 3 := by omega
  refine ⟨b, off, e, ?_, ?_, ?_, ?_⟩
  · have := hc 0 (by omega); simpa [opF] using this
  · have := hc 1 (by omega); simpa [opF, d1, m1] using this
  · have := hc 2 (by omega); simpa [opF, d2, m2] using this
  · have := hc 3 (by omega); simpa [opF, d3, m3] using this

def InOp (L : Nat → OpR) (n : Nat) : Prop := ∀ i, i < n → (-9223372036854775808 ≤ (L i).h ∧ (L i).h ≤ 9223372036854775807) ∧ (-9223372036854775808 ≤ (L i).x ∧ (L i).x ≤ 9223372036854775807)

theorem rd_ops {H : Type} {enc : TypeId × Value → H} {w : World} {A : Option Addr} {len cap : Nat} {d : DataW H} {p : List MemPlace}
    (h : DataW.Trod enc Try.prog w 0 (fun _ => true) true 39 (.slice A len cap) d p) :
    ∃ L, Rd w A (len * 4) (opF L) ∧ InOp L len ∧ len ≤ maxLen := by
  obtain ⟨h1, h2, h3⟩ := rd_structs Try.underlying39 Try.underlying41 (by kernel_rfl) (by kernel_rfl) h
  have g0 : ∀ i, i < len → _ := fun i hi => (h3 i hi 0 _ rfl).elim fun n h => h.elim fun y h => int_of_trod Try.underlying3 h
  have g1 : ∀ i, i < len → _ := fun i hi => (h3 i hi 1 _ rfl).elim fun n h => h.elim fun y h => int_of_trod Try.underlying3 h
  have g2 : ∀ i, i < len → _ := fun i hi => (h3 i hi 2 _ rfl).elim fun n h => h.elim fun y h => int_of_trod Try.underlying3 h
  have g3 : ∀ i, i < len → _ := fun i hi => (h3 i hi 3 _ rfl).elim fun n h => h.elim fun y h => bool_of_trod Try.underlying4 h
  clear h3
  simp only [List.size_toArray, List.length_cons, List.length_nil, Nat.zero_add, Nat.reduceAdd, Nat.add_zero] at h1 g0 g1 g2 g3
  refine ⟨fun i => ⟨intOf (cellAt w A (i * 4)), intOf (cellAt w A (i * 4 + 1)), intOf (cellAt w A (i * 4 + 2)), boolOf (cellAt w A (i * 4 + 3))⟩, h1.congr fun j hj => ?_, fun i hi => ⟨i64_bounds (g1 i hi).2, i64_bounds (g2 i hi).2⟩, h2⟩
  have hq : j / 4 < len := by omega
  unfold opF
  rcases (by omega : j % 4 = 0 ∨ j % 4 = 1 ∨ j % 4 = 2 ∨ j % 4 = 3) with e | e | e | e
  · rw [if_pos e]; have := (g0 _ hq).1; dsimp only; rwa [show j / 4 * 4 = j from by omega] at this ⊢
  · rw [if_neg (by omega), if_pos e]; have := (g1 _ hq).1; dsimp only; rwa [show j / 4 * 4 + 1 = j from by omega] at this ⊢
  · rw [if_neg (by omega), if_neg (by omega), if_pos e]; have := (g2 _ hq).1; dsimp only; rwa [show j / 4 * 4 + 2 = j from by omega] at this ⊢
  · rw [if_neg (by omega), if_neg (by omega), if_neg (by omega)]; have := g3 _ hq; dsimp only; rwa [show j / 4 * 4 + 3 = j from by omega] at this ⊢

/-- The first place holds x under the handle 1. -/
def Held (T : Nat → Pl) (x : Int) : Prop := (T 0).n = 1 ∧ (T 0).on = true ∧ (T 0).x = x
theorem Held.find {T : Nat → Pl} {x : Int} (h : Held T x) : findT T 1 = some 0 := by
  obtain ⟨a, b, c⟩ := h
  simp [findT, a, b, hnd]
theorem Held.get {T : Nat → Pl} {x : Int} (h : Held T x) : getX T 1 = x := by simp [getX, h.find, h.2.2]
theorem Held.err {T : Nat → Pl} {x : Int} (h : Held T x) : errE T 1 = 0 := by simp [errE, h.find]
theorem find_zero {T : Nat → Pl} {x k : Int} (h : Held T x) (hk : k ≠ 1) : findT T k ≠ some 0 := by
  intro e
  unfold findT at e
  split at e
  · rename_i hc
    obtain ⟨_, _, he⟩ := hc
    simp only [Option.some.injEq] at e
    rw [e] at he
    simp [hnd, h.1] at he
    omega
  · cases e
theorem Held.other {T : Nat → Pl} {x : Int} (h : Held T x) {i : Nat} (hi : i ≠ 0) (p : Pl) : Held (setT T i p) x := by
  unfold Held setT
  rw [if_neg (Ne.symm hi)]
  exact h
theorem Held.new {T : Nat → Pl} {x : Int} (h : Held T x) (y : Int) : Held (newT T y) x := by
  unfold newT
  cases e : freeT T 64 0 with
  | none => exact h
  | some i =>
    refine h.other (fun hi => ?_) _
    subst hi
    have := (freeT_lt _ _ _ e).2.2.1
    rw [h.2.1] at this
    cases this
theorem Held.drop {T : Nat → Pl} {x k : Int} (h : Held T x) (hk : k ≠ 1) : Held (dropT T k) x := by
  unfold dropT
  have := find_zero h hk
  cases e : findT T k with
  | none => exact h
  | some i => exact h.other (fun hi => this (by rw [e, hi])) _
theorem Held.setX {T : Nat → Pl} {x k : Int} (h : Held T x) (hk : k ≠ 1) (y : Int) : Held (setX T k y) x := by
  unfold Ytnjjecojedlccaa.setX
  have := find_zero h hk
  cases e : findT T k with
  | none => exact h
  | some i => exact h.other (fun hi => this (by rw [e, hi])) _

def KeepsRel (w : World) (bt : Nat) (x : Int) (n : Nat) (wr : World) : Prop :=
  ∃ T, Tab wr bt T ∧ WF T (1 + n) ∧ Held T x ∧ Keeps w wr


set_option maxRecDepth 100000 in
set_option maxHeartbeats 4000000 in
theorem keeps_walk (A : Option Addr) (len cap : Nat) (x : Int) (L : Nat → OpR) (w : World) (hr : Rd w A (len * 4) (opF L)) (hm : len ≤ 9223372036854775807) (hL : InOp L len) :
    Calls Try.prog 4 #[.slice A len cap, .int .i64 x] w fun e w' => e = .returned (.bool true) ∧ Keeps w w' := by
  have hz := zero_tab
  by_cases hlen : len ≤ 300
  · have hgt : decide ((300 : Int) < (len : Int)) = false := by simp; omega
    go_enter Try.func4, Try.ntmps4
    go_wp2_with fail
    refine (awake_any _).mono ?_
    rintro e w1 ⟨rfl, k1⟩
    have hT0 := Lib.hid (tab_made w1 T0)
    go_wp2_with fail
    refine (new_any _ T0 _ _ 0 hT0.out (wf_T0 0 (by omega) (by omega)) (by omega)).mono ?_
    rintro e w2 ⟨rfl, hT1, k2⟩
    have e1 : newA T0 = 1 := by decide
    have e2 : newE T0 = 0 := by decide
    have W1 : WF (newT T0 x) 1 := (wf_T0 0 (by omega) (by omega)).new x (by omega)
    have hH : Held (newT T0 x) x := ⟨rfl, rfl, rfl⟩
    have K2 : Keeps w w2 := (k1.alloc _).new k2 k1.size
    have hbt : w.heap.size ≤ w1.heap.size := k1.size
    generalize w1.heap.size = bt at *
    clear hT0 k2 k1
    go_wp2_with fail
    go_loopw [31] (fun i wr => ∃ k : Nat, k ≤ len ∧ i = .int .i64 k ∧ KeepsRel w bt x k wr) (fun i _ => len - (intOf i).toNat)
    case atStart => exact ⟨0, Nat.zero_le _, rfl, _, hT1, by simpa using W1, hH, K2⟩
    case round =>
      obtain ⟨k, hk, rfl, T, hT, hW, hH', K⟩ := hrel
      clear hT1 W1 hH K2
      by_cases hlt : k < len
      · obtain ⟨bl, off, rfl, c0, c1, c2, _⟩ := (hr.keep K).op hlt
        obtain ⟨⟨b1, b2⟩, _⟩ := hL k hlt
        clear hL hr
        generalize (L k).kind = kd at *
        generalize (L k).h = hh at *
        generalize (L k).x = xx at *
        by_cases q1 : kd = 1
        · subst q1
          go_wp2_with fail
          refine (new_any _ T _ _ _ hT hW (by omega)).mono ?_
          rintro e w3 ⟨rfl, hT3, k3⟩
          have W3 := hW.new xx (by omega)
          have H3 := hH'.new xx
          go_wp2_with fail
          refine (get_any _ _ _ _ _ hT3 W3 (by omega) (by omega)).mono ?_
          rintro e w4 ⟨rfl, k4⟩
          have g1 : getX (newT T xx) 1 = x := H3.get
          have g2 : errE (newT T xx) 1 = 0 := H3.err
          go_wp2_with fail
          go_roundw
          case rel => exact ⟨k + 1, by omega, by go_num, _, Blk.touch hT3 k4 (fun k => k), W3.mono (by omega) (by omega), H3, Keeps.trans (K.new k3 hbt) k4⟩
          case measure => simp [intOf]; omega
        · have n1 : (kd == 1) = false := by simp [q1]
          by_cases q3 : kd = 3
          · subst q3
            by_cases qo : hh = 1
            · subst qo
              go_wp2_with fail
              refine (get_any _ T _ _ _ hT hW (by omega) (by omega)).mono ?_
              rintro e w4 ⟨rfl, k4⟩
              have g1 : getX T 1 = x := hH'.get
              have g2 : errE T 1 = 0 := hH'.err
              go_wp2_with fail
              go_roundw
              case rel => exact ⟨k + 1, by omega, by go_num, T, Blk.touch hT k4 (fun k => k), hW.mono (by omega) (by omega), hH', Keeps.trans K k4⟩
              case measure => simp [intOf]; omega
            · have no : (hh != 1) = true := by simp [qo]
              go_wp2_with fail
              go_still_tail 11, (by kernel_rfl)
              change wpList _ _ _ _ _ wr.drew
              go_wp2_with fail
              refine (set_any _ T _ _ _ _ (Blk.drew hT) hW b1 b2).mono ?_
              rintro e w3 ⟨rfl, hT3, k3⟩
              have W3 := hW.setX hh xx
              have H3 := hH'.setX qo xx
              go_wp2_with fail
              refine (get_any _ _ _ _ _ hT3 W3 (by omega) (by omega)).mono ?_
              rintro e w4 ⟨rfl, k4⟩
              have g1 : getX (setX T hh xx) 1 = x := H3.get
              have g2 : errE (setX T hh xx) 1 = 0 := H3.err
              go_wp2_with fail
              go_roundw
              case rel => exact ⟨k + 1, by omega, by go_num, _, Blk.touch hT3 k4 (fun k => k), W3.mono (by omega) (by omega), H3, Keeps.trans (K.drew.new k3 hbt) k4⟩
              case measure => simp [intOf]; omega
          · have n3 : (kd == 3) = false := by simp [q3]
            by_cases q4 : kd = 4
            · subst q4
              by_cases qo : hh = 1
              · subst qo
                go_wp2_with fail
                refine (get_any _ T _ _ _ hT hW (by omega) (by omega)).mono ?_
                rintro e w4 ⟨rfl, k4⟩
                have g1 : getX T 1 = x := hH'.get
                have g2 : errE T 1 = 0 := hH'.err
                go_wp2_with fail
                go_roundw
                case rel => exact ⟨k + 1, by omega, by go_num, T, Blk.touch hT k4 (fun k => k), hW.mono (by omega) (by omega), hH', Keeps.trans K k4⟩
                case measure => simp [intOf]; omega
              · have no : (hh != 1) = true := by simp [qo]
                go_wp2_with fail
                refine (drop_any _ T _ _ _ hT hW b1 b2).mono ?_
                rintro e w3 ⟨rfl, hT3, k3⟩
                have W3 := hW.drop hh
                have H3 := hH'.drop qo
                go_wp2_with fail
                refine (get_any _ _ _ _ _ hT3 W3 (by omega) (by omega)).mono ?_
                rintro e w4 ⟨rfl, k4⟩
                have g1 : getX (dropT T hh) 1 = x := H3.get
                have g2 : errE (dropT T hh) 1 = 0 := H3.err
                go_wp2_with fail
                go_roundw
                case rel => exact ⟨k + 1, by omega, by go_num, _, Blk.touch hT3 k4 (fun k => k), W3.mono (by omega) (by omega), H3, Keeps.trans (K.new k3 hbt) k4⟩
                case measure => simp [intOf]; omega
            · have n4 : (kd == 4) = false := by simp [q4]
              go_wp2_with fail
              refine (get_any _ T _ _ _ hT hW (by omega) (by omega)).mono ?_
              rintro e w4 ⟨rfl, k4⟩
              have g1 : getX T 1 = x := hH'.get
              have g2 : errE T 1 = 0 := hH'.err
              go_wp2_with fail
              go_roundw
              case rel => exact ⟨k + 1, by omega, by go_num, T, Blk.touch hT k4 (fun k => k), hW.mono (by omega) (by omega), hH', Keeps.trans K k4⟩
              case measure => simp [intOf]; omega
      · go_wp2_with fail
        refine (set_any _ T _ _ _ _ hT hW (by omega) (by omega)).mono ?_
        rintro e w3 ⟨rfl, hT3, k3⟩
        have g2 : errE T 1 = 0 := hH'.err
        go_wp2_with fail
        go_ret
        exact ⟨rfl, K.new k3 hbt⟩
  · have hgt : decide ((300 : Int) < (len : Int)) = true := by simp; omega
    go_enter Try.func4, Try.ntmps4
    go_wp2_with fail
    refine (awake_any _).mono ?_
    rintro e w1 ⟨rfl, k1⟩
    go_wp2_with fail
    refine (awake_any _).mono ?_
    rintro e w2 ⟨rfl, k2⟩
    go_wp2_with fail
    go_ret
    exact ⟨rfl, Keeps.trans k1 k2⟩

end Go.Proofs.Ytnjjecojedlccaa
