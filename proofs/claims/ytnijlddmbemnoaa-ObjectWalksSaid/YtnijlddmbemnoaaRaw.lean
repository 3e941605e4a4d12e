/- Words and heads: what a word's parts are; a laid object reads as it was laid. -/
import Derived.Test.YtnijlddmbemnoaaObj6
namespace Go.Proofs.Ytnijlddmbemnoaa
open Go.RowKit

theorem and_low (i : Nat) (hi : i ≤ 40) (W : Int) (h0 : 0 ≤ W) (h1 : W < 2 ^ 62) : bits .and .i64 W (2 ^ i - 1) = W % 2 ^ i := by
  obtain ⟨a, rfl⟩ := Int.eq_ofNat_of_zero_le h0
  have hp : (2 : Nat) ^ i ≤ 2 ^ 40 := Nat.pow_le_pow_right (by decide) hi
  have hp0 : 0 < (2 : Nat) ^ i := Nat.two_pow_pos i
  have ha : a < 2 ^ 62 := by exact_mod_cast h1
  have p2 : (2 : Nat) ^ 62 < 2 ^ 63 := by decide
  have p1 : (2 : Nat) ^ 40 < 2 ^ 63 := by decide
  have h := (bits_nat .i64 63 (by decide) wraps_i64_63 a (2 ^ i - 1) (Nat.lt_trans ha p2) (by omega)).1
  rw [Nat.and_two_pow_sub_one_eq_mod] at h
  have e : (((2 ^ i - 1 : Nat) : Int)) = 2 ^ i - 1 := by
    rw [Int.natCast_sub hp0]; simp
  rw [e] at h
  rw [h]
  simp
theorem and63 (W : Int) (h0 : 0 ≤ W) (h1 : W < 2 ^ 62) : bits .and .i64 W 63 = W % 64 := and_low 6 (by decide) W h0 h1
theorem and15 (W : Int) (h0 : 0 ≤ W) (h1 : W < 2 ^ 62) : bits .and .i64 W 15 = W % 16 := and_low 4 (by decide) W h0 h1
theorem and1 (W : Int) (h0 : 0 ≤ W) (h1 : W < 2 ^ 62) : bits .and .i64 W 1 = W % 2 := and_low 1 (by decide) W h0 h1
/-- What a word's parts are, in numbers. -/
theorem raw_mod (W : Int) (h0 : 0 ≤ W) (h1 : W < 2 ^ 62) : rawH W = ⟨W % 64, W / 64 % 16, W / 8192, W / 1024 % 2 == 1, W / 2048 % 2 == 1, W / 4096 % 2 == 1⟩ := by
  unfold rawH
  rw [and63 W h0 h1, and15 _ (by omega) (by omega), and1 _ (by omega) (by omega), and1 _ (by omega) (by omega), and1 _ (by omega) (by omega)]
theorem raw_hdW {h : Hd} (hk : h.ok) : rawH (hdW h) = h := by
  obtain ⟨⟨a1, a2⟩, ⟨b1, b2⟩, ⟨c1, c2⟩, _⟩ := hk
  obtain ⟨c, a, f, m, fi, d⟩ := h
  dsimp only at *
  have q1 : bitI m 10 = if m then 1024 else 0 := by cases m <;> rfl
  have q2 : bitI fi 11 = if fi then 2048 else 0 := by cases fi <;> rfl
  have q3 : bitI d 12 = if d then 4096 else 0 := by cases d <;> rfl
  have hW : hdW ⟨c, a, f, m, fi, d⟩ = c + 64 * a + (if m then 1024 else 0) + (if fi then 2048 else 0) + (if d then 4096 else 0) + 8192 * f := by
    unfold hdW; rw [q1, q2, q3]
  rw [hW]
  have hb : 0 ≤ c + 64 * a + (if m then 1024 else 0) + (if fi then 2048 else 0) + (if d then 4096 else 0) + 8192 * f ∧ c + 64 * a + (if m then 1024 else 0) + (if fi then 2048 else 0) + (if d then 4096 else 0) + 8192 * f < 2 ^ 62 := by
    cases m <;> cases fi <;> cases d <;> simp <;> omega
  rw [raw_mod _ hb.1 hb.2]
  cases m <;> cases fi <;> cases d <;> simp <;> omega
theorem hdW_bd {h : Hd} (hk : h.ok) : 0 ≤ hdW h ∧ hdW h < 33554432 := by
  obtain ⟨⟨a1, a2⟩, ⟨b1, b2⟩, ⟨c1, c2⟩, _⟩ := hk
  obtain ⟨c, a, f, m, fi, d⟩ := h
  dsimp only at *
  unfold hdW
  dsimp only
  cases m <;> cases fi <;> cases d <;> simp [bitI] <;> omega
/-- An object that is laid stands there. -/
theorem atT_laid {n m : Nat} {f : Nat → Int} {C : Nat → Cl} {a c len : Int} (hC : ∀ j, j < m → (C j).ok) (hm : m < 64) (hE : shE C m c len = 0) (hT : thB n a (shW C m c len) = true)
    (h1 : f a.toNat = layW c (C (c - 1).toNat).fin) (h2 : f (a + 1).toNat = len) :
    atT n f m C a = (⟨⟨c, 0, 0, false, (C (c - 1).toNat).fin, false⟩, shR C m c len, shD C m c len, shW C m c len⟩, 0) := by
  have hok := lay_ok hC hm hE
  have hw : shW C m c len = 2 + shR C m c len + shD C m c len := by unfold shW; rw [if_pos hE]
  have hr : rawH (f a.toNat) = ⟨c, 0, 0, false, (C (c - 1).toNat).fin, false⟩ := by rw [h1]; exact raw_hdW hok.2
  obtain ⟨t1, t2, t3, t4⟩ := thB_true.1 hT
  have h2w := hok2 hC hE
  rw [hw]
  rw [hw] at hT
  exact atT_obj (thB_true.2 ⟨t1, by omega, t3, by omega⟩) (by rw [hr]; exact hok.2) hr (fun h => by have := hok.1.1; dsimp only at h; omega) (by omega) h2 hE rfl rfl hT
/-- The cells of a laid object. -/
theorem layF_at {f : Nat → Int} {a k W len : Int} (h : 0 ≤ a) : layF f a k W len a.toNat = W := by
  unfold layF putF
  rw [if_neg (by omega), if_pos rfl]
theorem layF_len {f : Nat → Int} {a k W len : Int} : layF f a k W len (a + 1).toNat = len := by
  unfold layF putF
  rw [if_pos rfl]
theorem layF_in {f : Nat → Int} {a k W len : Int} (h : 0 ≤ a) {j : Nat} (h1 : a + 2 ≤ j) (h2 : (j : Int) < a + k) : layF f a k W len j = 0 := by
  unfold layF putF fillF
  rw [if_neg (by omega), if_neg (by omega), if_pos (by omega)]
theorem layF_out {f : Nat → Int} {a k W len : Int} (h : 0 ≤ a) (hk : 2 ≤ k) {j : Nat} (h1 : (j : Int) < a ∨ a + k ≤ j) : layF f a k W len j = f j := by
  unfold layF putF fillF
  rw [if_neg (by omega), if_neg (by omega), if_neg (by omega)]

end Go.Proofs.Ytnijlddmbemnoaa
