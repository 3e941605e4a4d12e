/- How often each byte stands among the lines; plain. -/
import Derived.Test.YtnpmadnihheahaaPlotJ
namespace Go.Proofs.Ytnpmadnihheahaa

def sumN (f : Nat → Int) : Nat → Int
  | 0 => 0
  | n + 1 => sumN f n + f n
theorem sumN_congr {f g : Nat → Int} : ∀ {n : Nat}, (∀ j, j < n → f j = g j) → sumN f n = sumN g n
  | 0, _ => rfl
  | n + 1, h => by unfold sumN; rw [sumN_congr (fun j hj => h j (by omega)), h n (by omega)]
theorem sumN_point {f g : Nat → Int} {j0 : Nat} : ∀ {n : Nat}, j0 < n → (∀ j, j < n → j ≠ j0 → f j = g j) → sumN f n = sumN g n + (f j0 - g j0)
  | n + 1, h0, h => by
    unfold sumN
    by_cases e : j0 = n
    · subst e
      rw [sumN_congr (fun j hj => h j (by omega) (by omega))]
      omega
    · rw [sumN_point (by omega) (fun j hj => h j (by omega)), h n (by omega) (fun k => e k.symm)]
      omega
theorem sumN_const (a : Int) : ∀ n : Nat, sumN (fun _ => a) n = a * n
  | 0 => by simp [sumN]
  | n + 1 => by
    unfold sumN
    rw [sumN_const a n, Int.natCast_add, Int.mul_add]
    simp
def ind (a c : Int) : Int := if a = c then 1 else 0
/-- How often the byte c stands in the first m places of a row, in the first i rows. -/
def rowC (s : Nat → Int) (k : Nat) (b : Bx) (r : Nat) (c : Int) (m : Nat) : Int := sumN (fun col => ind (gN s (b.l + (col : Nat)) (b.u - (r : Nat)) k) c) m
def allC (s : Nat → Int) (k : Nat) (b : Bx) (c : Int) (i : Nat) : Int := sumN (fun r => rowC s k b r c (wid b)) i
/-- How often it is among the first cells. -/
def cellC (s : Nat → Int) (c : Int) (k : Nat) : Int := sumN (fun j => ind (s j) c) k

theorem gN_succ (s : Nat → Int) (X Y : Int) (k : Nat) : gN s X Y (k + 1) = if (St k).x = X ∧ (St k).y = Y then s k else gN s X Y k := rfl
theorem gN_free {s : Nat → Int} {X Y : Int} : ∀ {k : Nat}, (∀ j, j < k → ¬ ((St j).x = X ∧ (St j).y = Y)) → gN s X Y k = 32
  | 0, _ => rfl
  | k + 1, h => by
    rw [gN_succ, if_neg (h k (by omega))]
    exact gN_free (fun j hj => h j (by omega))
theorem gN_own {s : Nat → Int} {k : Nat} (hk : k ≤ 4096) : gN s (St k).x (St k).y k = 32 :=
  gN_free fun j hj h => by
    have := sp_inj (by omega) hk h.1 h.2
    omega
theorem gN_range {s : Nat → Int} (hs : ∀ j, 0 ≤ s j ∧ s j ≤ 255) (X Y : Int) : ∀ k, 0 ≤ gN s X Y k ∧ gN s X Y k ≤ 255
  | 0 => by show (0 : Int) ≤ 32 ∧ (32 : Int) ≤ 255; omega
  | k + 1 => by
    rw [gN_succ]
    split
    · exact hs k
    · exact gN_range hs X Y k

theorem allC_step {s : Nat → Int} {n k : Nat} (hn : n ≤ 4096) (hk : k < n) (c : Int) :
    allC s (k + 1) (bxN n) c (hei (bxN n)) = allC s k (bxN n) c (hei (bxN n)) + ind (s k) c - ind 32 c := by
  obtain ⟨x1, x2, x3, x4⟩ := bx_in (j := k) (k := n) hk
  obtain ⟨r, hr0, hr1⟩ : ∃ r : Nat, r < hei (bxN n) ∧ (bxN n).u - (r : Int) = (St k).y := ⟨((bxN n).u - (St k).y).toNat, by unfold hei; omega, by omega⟩
  obtain ⟨q, hq0, hq1⟩ : ∃ q : Nat, q < wid (bxN n) ∧ (bxN n).l + (q : Int) = (St k).x := ⟨((St k).x - (bxN n).l).toNat, by unfold wid; omega, by omega⟩
  have hrow : rowC s (k + 1) (bxN n) r c (wid (bxN n)) = rowC s k (bxN n) r c (wid (bxN n)) + (ind (s k) c - ind 32 c) := by
    unfold rowC
    rw [sumN_point (g := fun col => ind (gN s ((bxN n).l + (col : Nat)) ((bxN n).u - (r : Nat)) k) c) hq0 (fun j hj hne => by
      rw [gN_succ, if_neg (fun h => hne (by omega))])]
    rw [hq1, hr1, gN_own (by omega), gN_succ, if_pos ⟨rfl, rfl⟩]
  unfold allC
  rw [sumN_point (g := fun r => rowC s k (bxN n) r c (wid (bxN n))) hr0 (fun j hj hne => by
    unfold rowC
    refine sumN_congr fun col _ => ?_
    rw [gN_succ, if_neg (fun h => hne (by omega))]), hrow]
  omega
theorem allC_eq {s : Nat → Int} {n : Nat} (hn : n ≤ 4096) (c : Int) : ∀ k, k ≤ n →
    allC s k (bxN n) c (hei (bxN n)) = cellC s c k + ind 32 c * ((wid (bxN n) : Int) * (hei (bxN n) : Int) - k)
  | 0, _ => by
    have e : allC s 0 (bxN n) c (hei (bxN n)) = ind 32 c * (wid (bxN n) : Int) * (hei (bxN n) : Int) := by
      unfold allC rowC
      show sumN (fun r => sumN (fun col => ind 32 c) _) _ = _
      rw [sumN_congr (g := fun _ => ind 32 c * (wid (bxN n) : Int)) (fun j _ => sumN_const _ _), sumN_const]
    rw [e]
    simp [cellC, sumN, Int.mul_assoc]
  | k + 1, h => by
    rw [allC_step hn (by omega), allC_eq hn c k (by omega)]
    unfold cellC
    show _ = sumN _ k + ind (s k) c + _
    rw [Int.natCast_add, Int.mul_sub, Int.mul_sub, Int.mul_add]
    simp only [Int.natCast_one, Int.mul_one]
    omega
/-- All together: what is left of the count, of a byte that is no space; of spaces. -/
theorem count_end {s : Nat → Int} {n : Nat} (hn : n ≤ 4096) :
    (∀ c, c ≠ 32 → allC s n (bxN n) c (hei (bxN n)) - cellC s c n = 0) ∧ (wid (bxN n) : Int) * (hei (bxN n) : Int) = n + (allC s n (bxN n) 32 (hei (bxN n)) - cellC s 32 n) := by
  refine ⟨fun c hc => ?_, ?_⟩
  · rw [allC_eq hn c n (Nat.le_refl _)]
    have : ind 32 c = 0 := by unfold ind; rw [if_neg (fun h => hc h.symm)]
    rw [this]
    simp
  · rw [allC_eq hn 32 n (Nat.le_refl _)]
    have : ind 32 32 = 1 := rfl
    rw [this]
    omega

theorem sumN_bd {f : Nat → Int} {a : Int} (h : ∀ j, 0 ≤ f j ∧ f j ≤ a) : ∀ n : Nat, 0 ≤ sumN f n ∧ sumN f n ≤ a * n
  | 0 => by simp [sumN]
  | n + 1 => by
    unfold sumN
    have h1 := sumN_bd h n
    have h2 := h n
    rw [Int.natCast_add, Int.mul_add]
    simp only [Int.natCast_one, Int.mul_one]
    omega
theorem ind_bd (a c : Int) : 0 ≤ ind a c ∧ ind a c ≤ 1 := by unfold ind; split <;> omega
theorem rowC_bd (s : Nat → Int) (k : Nat) (b : Bx) (r : Nat) (c : Int) (m : Nat) : 0 ≤ rowC s k b r c m ∧ rowC s k b r c m ≤ m := by
  have := sumN_bd (f := fun col => ind (gN s (b.l + (col : Nat)) (b.u - (r : Nat)) k) c) (a := 1) (fun j => ind_bd _ _) m
  unfold rowC
  omega
theorem allC_bd (s : Nat → Int) (k : Nat) (b : Bx) (c : Int) (i : Nat) (hw : wid b ≤ 65) : 0 ≤ allC s k b c i ∧ allC s k b c i ≤ 65 * i :=
  sumN_bd (f := fun r => rowC s k b r c (wid b)) (a := 65) (fun j => by have := rowC_bd s k b j c (wid b); omega) i
theorem cellC_bd (s : Nat → Int) (c : Int) (k : Nat) : 0 ≤ cellC s c k ∧ cellC s c k ≤ k := by
  have := sumN_bd (f := fun j => ind (s j) c) (a := 1) (fun j => ind_bd _ _) k
  unfold cellC
  omega

/-! ### bytes of the lines -/
theorem byt_range (t : ByteArray) (j : Nat) : 0 ≤ byt t j ∧ byt t j ≤ 255 := by
  unfold byt
  have := (t.data.toList.getD j 0).toNat_lt
  omega
theorem lnS_size (t : ByteArray) (r : Nat) : (lnS t r).size = wid (bxN t.size) := by
  unfold lnS
  rw [strOfNums_size]
  simp [row]
theorem lnS_byte (t : ByteArray) (r c : Nat) (hc : c < wid (bxN t.size)) : byt (lnS t r) c = gN (byt t) ((bxN t.size).l + (c : Nat)) ((bxN t.size).u - (r : Nat)) t.size := by
  obtain ⟨h0, h1⟩ := gN_range (byt_range t) ((bxN t.size).l + (c : Nat)) ((bxN t.size).u - (r : Nat)) t.size
  have e : ((row (byt t) t.size (bxN t.size) r).map fun n => UInt8.ofNat n.toNat)[c]? = some (UInt8.ofNat (gN (byt t) ((bxN t.size).l + (c : Nat)) ((bxN t.size).u - (r : Nat)) t.size).toNat) := by
    unfold row
    rw [List.map_map, List.getElem?_map, List.getElem?_range hc]
    rfl
  have e2 : byt (lnS t r) c = ((((row (byt t) t.size (bxN t.size) r).map fun n => UInt8.ofNat n.toNat).getD c 0).toNat : Int) := rfl
  rw [e2, List.getD_eq_getElem?_getD, e, Option.getD_some, UInt8.toNat_ofNat']
  omega

end Go.Proofs.Ytnpmadnihheahaa
