/- Layer 16, the document's: place, goes, Walk, Word; lists of spaces. -/
import Derived.Test.YtkjgfblkbjlohaaGreatG26
import Derived.Test.YtkjgfblkbjlohaaGreatDocP
import Derived.Test.YtkjgfblkbjlohaaGreatSl5
import Derived.BigQuiet
set_option linter.all false

namespace Go.Proofs.YtkjgfblkbjlohaaGreat
open Go.RowKit

/-- The first place at which a number stands. -/
theorem first_at (F : Nat → Int) (x : Int) : ∀ n, (∃ i, i < n ∧ F i = x) → ∃ k, k < n ∧ F k = x ∧ ∀ i, i < k → F i ≠ x
  | 0, ⟨i, hi, _⟩ => by omega
  | n + 1, ⟨i, hi, e⟩ => by
    by_cases h : ∃ i, i < n ∧ F i = x
    · obtain ⟨k, h1, h2, h3⟩ := first_at F x n h
      exact ⟨k, by omega, h2, h3⟩
    · refine ⟨n, by omega, ?_, fun j hj e2 => h ⟨j, hj, e2⟩⟩
      rcases (by omega : i = n ∨ i < n) with rfl | h2
      · exact e
      · exact absurd ⟨i, h2, e⟩ h
theorem place16 (ad : Option Addr) (F : Nat → Int) (n cap : Nat) (x : Int) (w : World) (hr : Rd w ad n (intF .i64 F)) (hl : n ≤ 1000000) (p : Nat) (hp : p < n) (hF : F p = x) (hm : ∀ i, i < p → F i ≠ x) :
    Calls Tryz.prog 40 #[.slice ad n cap, .int .i64 x] w fun e w' => e = .returned (.int .i64 p) ∧ Keeps w w' := by
  have HM := Lib.hid hm
  have HF := Lib.hid hF
  clear hm hF
  go_enter Tryz.func40, Tryz.ntmps40
  go_wp2_with fail
  go_loopw [8] (fun i wr => ∃ k : Nat, k ≤ p ∧ i = .int .i64 k ∧ Keeps w wr) (fun i _ => n - (intOf i).toNat)
  case atStart => exact ⟨0, Nat.zero_le _, rfl, Touch.refl _ _⟩
  case round =>
    obtain ⟨w1, rfl⟩ : ∃ w1 : World, w1 = wr := ⟨_, rfl⟩
    obtain ⟨k, hk, rfl, k1⟩ := hrel
    have hlt : k < n := by omega
    have hltI : (k : Int) < n := by omega
    obtain ⟨b, off, rfl, c1⟩ := (hr.keep k1).one hlt
    have c2 : w1.cell? ⟨b, off + k, none⟩ = some (.int .i64 (F k)) := c1
    clear c1
    by_cases hkp : k = p
    · subst hkp
      rw [HF.out] at c2
      go_wp2_with fail
      go_ret
      exact ⟨rfl, k1⟩
    · have hne := HM.out k (by omega)
      generalize F k = y at *
      have hyb : (y == x) = false := by simpa using hne
      clear hne
      go_wp2_with fail
      go_roundw
      case rel => exact ⟨k + 1, by omega, by go_num, k1⟩
      case measure => simp [intOf]; omega
/-- Where an address goes to. -/
theorem goes16 (sa ta : Option Addr) (S : Nat → Int) (out : List Int) (n sc tn tc : Nat) (x : Int) (w : World) (hs : Rd w sa n (intF .i64 S)) (ht : Rd w ta n (intF .i64 fun j => out.getD j 0)) (hn : n ≤ 1000000) (htn : tn = n) (hS : ∀ i, i < n → S i ≠ 0) (hinj : ∀ i j, i < n → j < n → S i = S j → i = j) (hx : x = 0 ∨ ∃ i, i < n ∧ S i = x) :
    Calls Tryz.prog 43 #[.slice sa n sc, .slice ta tn tc, .int .i64 x] w fun e w' => e = .returned (.tuple #[.int .i64 ((planM S out n x).getD 0), .bool true]) ∧ Keeps w w' := by
  subst htn
  by_cases h0 : x = 0
  · subst h0
    rw [planM_zero S out tn hS]
    go_enter Tryz.func43, Tryz.ntmps43
    go_wp2_with fail
    go_ret2
    exact ⟨rfl, Touch.refl _ _⟩
  · obtain ⟨p, hp, hF, hm⟩ := first_at S x tn (hx.resolve_left h0)
    have hpl := Lib.hid (fun w' (k : Keeps w w') => place16 sa S tn sc x w' (hs.keep k) hn p hp hF hm)
    have hM : planM S out tn x = some (out.getD p 0) := by rw [← hF]; exact planM_at S out tn hinj p hp
    rw [hM]
    have hxb : (x == 0) = false := by simpa using h0
    have HT := Lib.hid ht
    have hpI : (p : Int) < tn := by omega
    clear hx hS hinj hF hm hM h0 hs ht
    generalize hg : (some (out.getD p 0)).getD 0 = g
    have HG := Lib.hid (show out.getD p 0 = g from hg)
    clear hg
    go_enter Tryz.func43, Tryz.ntmps43
    go_wp2_with fail
    refine Calls.mono (hpl.out _ (Touch.refl _ _)) ?_
    clear hpl
    rintro e w1 ⟨rfl, k1⟩
    obtain ⟨b, off, rfl, c1⟩ := (HT.out.keep k1).one hp
    have c2 : w1.cell? ⟨b, off + p, none⟩ = some (.int .i64 g) := by have : w1.cell? ⟨b, off + p, none⟩ = some (.int .i64 (out.getD p 0)) := c1; rwa [HG.out] at this
    clear c1
    go_wp2_with fail
    go_ret2
    exact ⟨rfl, k1⟩
/-- Spaces of the one type as of the other. -/
theorem list_any (A : Option Addr) (n cap : Nat) (L : Nat → Sp) (w : World) (hr : Rd w A (n * 3) (spF L)) (hn : n ≤ 1000) :
    Calls Tryz.prog 9 #[.slice A n cap] w fun e w' => ∃ v, e = .returned v ∧ OwnSp 91 w' w.heap.size v L n ∧ Keeps w w' := by
  go_enter Tryz.func9, Tryz.ntmps9
  go_wp2_with fail
  go_loopw [3, 7] (fun v i wr => ∃ k : Nat, k ≤ n ∧ i = .int .i64 k ∧ OwnSp 91 wr w.heap.size v L k ∧ Keeps w wr) (fun _ i _ => n - (intOf i).toNat)
  case atStart => exact ⟨0, Nat.zero_le _, rfl, OwnSp.nil_ _ _ _ _, Touch.refl _ _⟩
  case round =>
    obtain ⟨w1, rfl⟩ : ∃ w1 : World, w1 = wr := ⟨_, rfl⟩
    obtain ⟨k, hk, rfl, hown, k1⟩ := hrel
    have HO := Lib.hid hown
    have z1 := k1.size
    clear hown
    by_cases hlt : k < n
    · have hltI : (k : Int) < n := by omega
      obtain ⟨b, o, rfl, e0, e1, e2⟩ := (hr.keep k1).sp hlt
      have hk' : k ≤ 1000000 := by omega
      go_wp2_with (at_builtin; refine app_sp Tryz.underlying47 info_rsp rfl (.tmp 10) (.tmp 15) rfl w.heap.size u3 L k (World.ownsRow.alloc HO.out _) rfl w1.heap.size rfl (made0 _ _ _) (made1 _ _ _) (made2 _ _ _) hk' (by simp; omega) ?_; intro v' w2 hown' hgr hbl; have hlo := HO.out.lt; have K2 : Keeps w w2 := Keeps.grown (Touch.alloc k1 _) hgr (fun kk e => (hlo kk e).1); have HO2 := Lib.hid hown'; clear hgr hbl hlo hown')
      go_roundw
      case rel => exact ⟨k + 1, by omega, by go_num, HO2.out, K2⟩
      case measure => simp [intOf]; omega
    · obtain rfl : k = n := by omega
      go_wp2_with fail
      go_ret
      exact ⟨_, rfl, HO.out, k1⟩
/-- The document's Word. -/
theorem word16 (h : Hd) (hk : h.ok) (w : World) :
    Calls Tryz.prog 46 #[.agg #[.int .i64 h.cls, .int .i64 h.age, .int .i64 h.fwd, .bool h.mark, .bool h.fin, .bool h.done]] w fun e w' => e = .returned (.int .i64 (hdW h)) ∧ Keeps w w' := by
  obtain ⟨⟨a1, a2⟩, ⟨b1, b2⟩, ⟨c1, c2⟩, hfd⟩ := hk
  obtain ⟨c, a, f, mk, fi, dn⟩ := h
  dsimp only at *
  unfold hdW
  dsimp only
  have g1 : IntKind.i64.wrap (64 * a) = 64 * a := IntWalk.i64_in _ ⟨by omega, by omega⟩
  have g2 : IntKind.i64.wrap (8192 * f) = 8192 * f := IntWalk.i64_in _ ⟨by omega, by omega⟩
  have g3 : IntKind.i64.wrap (c + 64 * a) = c + 64 * a := IntWalk.i64_in _ ⟨by omega, by omega⟩
  have g4 : IntKind.i64.wrap (c + 64 * a + 8192 * f) = c + 64 * a + 8192 * f := IntWalk.i64_in _ ⟨by omega, by omega⟩
  obtain ⟨T, hT⟩ : ∃ T, c + 64 * a + 8192 * f = T := ⟨_, rfl⟩
  have hTb : 0 ≤ T ∧ T < 33554432 := by omega
  rw [hT] at g4
  have HT := Lib.hid hT
  clear hT
  have q1 : bitI true 10 = 1024 := rfl
  have q2 : bitI true 11 = 2048 := rfl
  have q3 : bitI true 12 = 4096 := rfl
  have q4 : ∀ k, bitI false k = 0 := fun _ => rfl
  cases mk <;> cases fi <;> cases dn
  case true.true.true => exact absurd ⟨rfl, rfl⟩ hfd
  case false.true.true => exact absurd ⟨rfl, rfl⟩ hfd
  all_goals
    have e1 : IntKind.i64.wrap (T + 1024) = T + 1024 := IntWalk.i64_in _ ⟨by omega, by omega⟩
    have e2 : IntKind.i64.wrap (T + 2048) = T + 2048 := IntWalk.i64_in _ ⟨by omega, by omega⟩
    have e3 : IntKind.i64.wrap (T + 4096) = T + 4096 := IntWalk.i64_in _ ⟨by omega, by omega⟩
    have e4 : IntKind.i64.wrap (T + 1024 + 2048) = T + 1024 + 2048 := IntWalk.i64_in _ ⟨by omega, by omega⟩
    have e5 : IntKind.i64.wrap (T + 1024 + 4096) = T + 1024 + 4096 := IntWalk.i64_in _ ⟨by omega, by omega⟩
    clear hfd
    go_enter Tryz.func46, Tryz.ntmps46
    go_wp2_with fail
    go_ret
    refine ⟨?_, by first | exact Touch.refl _ _ | exact (Touch.refl _ w).alloc _⟩
    have := HT.out
    simp only [q1, q2, q3, q4]
    have hv : ∀ x y : Int, x = y → Ending.returned (.int .i64 x) = Ending.returned (.int .i64 y) := fun x y e => by rw [e]
    refine hv _ _ ?_
    omega

end Go.Proofs.YtkjgfblkbjlohaaGreat
