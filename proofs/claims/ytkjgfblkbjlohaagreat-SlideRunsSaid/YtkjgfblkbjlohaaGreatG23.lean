/- Layer 6, object: SetHead. -/
import Derived.Test.YtkjgfblkbjlohaaGreatG02
import Derived.Test.YtkjgfblkbjlohaaGreatG03
import Derived.Laws.CopyOwn
import Derived.Laws.Rows
import Derived.Test.YtkjgfblkbjlohaaGreatG11
set_option linter.all false

namespace Go.Proofs.YtkjgfblkbjlohaaGreat
open Go.RowKit

/-- Words that are moved. -/
def moveF (g : Nat → Int) (dst src k : Int) : Nat → Int := fun j => if dst ≤ j ∧ (j : Int) < dst + k then g (src + (j - dst)).toNat else g j
theorem moveF_in {g : Nat → Int} {dst src k : Int} {j : Nat} (h : dst ≤ j ∧ (j : Int) < dst + k) : moveF g dst src k j = g (src + (j - dst)).toNat := if_pos h
theorem moveF_out {g : Nat → Int} {dst src k : Int} {j : Nat} (h : ¬ (dst ≤ j ∧ (j : Int) < dst + k)) : moveF g dst src k j = g j := if_neg h
/-- Things that are moved down: the i-th stands at s i, has Z i words, goes to P i; adj i turns its words where it stands. -/
structure Down (m : Nat) (s P Z : Nat → Int) (adj : Nat → (Nat → Int) → Nat → Int) : Prop where
  big : ∀ i, i < m → 1 ≤ Z i
  p0 : ∀ i, i < m → 0 ≤ P i
  le : ∀ i, i < m → P i ≤ s i
  snext : ∀ i, i + 1 < m → s i + Z i ≤ s (i + 1)
  pnext : ∀ i, i + 1 < m → P i + Z i ≤ P (i + 1)
  out : ∀ i, i < m → ∀ (g : Nat → Int) (j : Nat), ¬ (s i ≤ j ∧ (j : Int) < s i + Z i) → adj i g j = g j
  loc : ∀ i, i < m → ∀ (g g' : Nat → Int), (∀ j : Nat, s i ≤ j → (j : Int) < s i + Z i → g j = g' j) → ∀ j : Nat, s i ≤ j → (j : Int) < s i + Z i → adj i g j = adj i g' j
def downF (f : Nat → Int) (s P Z : Nat → Int) (adj : Nat → (Nat → Int) → Nat → Int) : Nat → Nat → Int
  | 0 => f
  | i + 1 => moveF (adj i (downF f s P Z adj i)) (P i) (s i) (Z i)
namespace Down
variable {m : Nat} {s P Z : Nat → Int} {adj : Nat → (Nat → Int) → Nat → Int} {f : Nat → Int}
/-- What stands from the next one on is as it was. -/
theorem src (h : Down m s P Z adj) : ∀ i, i < m → ∀ j : Nat, s i ≤ j → downF f s P Z adj i j = f j
  | 0, _, _, _ => rfl
  | i + 1, hi, j, hj => by
    have h1 := h.snext i hi
    have h2 := h.le i (by omega)
    have h3 := h.big i (by omega)
    show moveF (adj i (downF f s P Z adj i)) (P i) (s i) (Z i) j = f j
    rw [moveF_out (by omega), h.out i (by omega) _ _ (by omega)]
    exact h.src i (by omega) j (by omega)
theorem pmono (h : Down m s P Z adj) : ∀ d q, q + 1 + d < m → P q + Z q ≤ P (q + 1 + d)
  | 0, q, hq => h.pnext q hq
  | d + 1, q, hq => by
    have h1 := h.pmono d q (by omega)
    have h2 := h.pnext (q + 1 + d) (by omega)
    have h3 := h.big (q + 1 + d) (by omega)
    rw [show q + 1 + (d + 1) = q + 1 + d + 1 by omega]
    omega
theorem psep (h : Down m s P Z adj) {q i : Nat} (hq : q < i) (hi : i < m) : P q + Z q ≤ P i := by
  obtain ⟨d, rfl⟩ : ∃ d, i = q + 1 + d := ⟨i - (q + 1), by omega⟩
  exact h.pmono d q hi
/-- What was moved lies at its new place, adjusted. -/
theorem dst (h : Down m s P Z adj) : ∀ i, i ≤ m → ∀ q, q < i → ∀ t : Int, 0 ≤ t → t < Z q → downF f s P Z adj i (P q + t).toNat = adj q f (s q + t).toNat
  | 0, _, q, hq, _, _, _ => by omega
  | i + 1, hi, q, hq, t, t0, t1 => by
    show moveF (adj i (downF f s P Z adj i)) (P i) (s i) (Z i) (P q + t).toNat = _
    have hp := h.p0 q (by omega)
    have hle := h.le i (by omega)
    have hs0 := h.le q (by omega)
    rcases (by omega : q = i ∨ q < i) with rfl | hlt
    · rw [moveF_in (by omega), show (s q + (((P q + t).toNat : Nat) - P q) : Int).toNat = (s q + t).toNat by omega]
      exact h.loc q (by omega) _ _ (fun j j1 _ => h.src q (by omega) j j1) _ (by omega) (by omega)
    · have hsep := h.psep hlt (by omega)
      rw [moveF_out (by omega), h.out i (by omega) _ _ (by omega)]
      exact h.dst i (by omega) q hlt t t0 t1
/-- What lies apart from all of it is as it was. -/
theorem other (h : Down m s P Z adj) : ∀ i, i ≤ m → ∀ j : Nat, (∀ q, q < i → ¬ (P q ≤ j ∧ (j : Int) < s q + Z q)) → downF f s P Z adj i j = f j
  | 0, _, _, _ => rfl
  | i + 1, hi, j, hj => by
    have h1 := hj i (by omega)
    have h2 := h.le i (by omega)
    show moveF (adj i (downF f s P Z adj i)) (P i) (s i) (Z i) j = f j
    rw [moveF_out (by omega), h.out i (by omega) _ _ (by omega)]
    exact h.other i (by omega) j (fun q hq => hj q (by omega))
end Down

end Go.Proofs.YtkjgfblkbjlohaaGreat

namespace Go.Proofs.YtkjgfblkbjlohaaGreat
open Go.RowKit

theorem Ar.moved {w : World} {ba bw n : Nat} {f : Nat → Int} (h : Ar w ba bw n f) (g : Nat → Int) (cs : Array Value) (hs : cs.size = n) (hc : ∀ j, j < n → cs[j]? = some (.int .i64 (g j))) :
    Ar (w.setRow bw cs) ba bw n g := by
  have hO : Touch (fun k => k = bw) w (w.setRow bw cs) := ⟨rfl, rfl, rfl, by simp, fun k _ hn => setRow_other w bw k cs hn⟩
  refine ⟨h.head.touch hO h.ne, ?_, h.ne, h.le⟩
  have h1 := setRow_heap w bw _ cs 3 _ h.body
  unfold Blk
  rw [h1]
  congr 2
  apply Array.ext
  · simp [hs]
  · intro k h1 h2
    have := hc k (by omega)
    rw [Array.getElem?_eq_getElem h1] at this
    simpa using this

theorem sz_int : (Tryz.prog.info? 3).map (·.size) = some 1 := by kernel_rfl
theorem move_yes (ba bw n : Nat) (f : Nat → Int) (w : World) (h : Ar w ba bw n f) (d s k : Nat) (h0 : 0 < k) (hd : d + k ≤ n) (hs : s + k ≤ n) :
    Calls Tryz.prog 75 #[.pointer (some ⟨ba, 0, none⟩), .int .i64 (d : Int), .int .i64 (s : Int), .int .i64 (k : Int)] w fun e w' => e = .returned (.int .i64 0) ∧ Ar w' ba bw n (moveF f d s k) ∧ Only bw w w' := by
  have HA := Lib.hid h
  have HS1 := Lib.hid (stretch_yes ba bw n f w h d k h0 hd)
  have HS2 := Lib.hid (stretch_yes ba bw n f w h s k h0 hs)
  have hle := h.le
  clear h
  go_enter Tryz.func75, Tryz.ntmps75
  go_wp2_with fail
  refine Calls.mono HS1.out ?_
  rintro e w1 ⟨rfl, rfl⟩
  go_wp2_with fail
  refine Calls.mono HS2.out ?_
  rintro e w1 ⟨rfl, rfl⟩
  go_wp2_with (refine wpList_copy_own ?_ (.tmp 33) (.tmp 34) 34 34 ?_ 3 Tryz.underlying34 sz_int bw d k (n - d) ⟨bw, s, none⟩ k (n - s) ?_ ?_ _ _ HA.out.body ((List.range k).map fun j => .int .i64 (f (s + j))) (by simp) ?hsrc (by simp; omega) ?h1 ?_; rfl; rfl; rfl; rfl)
  case hsrc =>
    intro j v hj
    have hjk : j < k := by
      rcases Nat.lt_or_ge j k with h1 | h1
      · exact h1
      · rw [List.getElem?_eq_none (by simpa using h1)] at hj; cases hj
    simp [hjk] at hj
    subst hj
    rw [add_plain]
    exact HA.out.body.cell (j := s + j) (by omega)
  case h1 =>
    intro v hv
    simp at hv
    obtain ⟨j, _, rfl⟩ := hv
    rfl
  go_ret
  refine ⟨rfl, HA.out.moved _ _ (by simp; omega) (fun j hj => ?_), ⟨rfl, rfl, rfl, by simp, fun k _ hn => setRow_other w bw k _ hn⟩⟩
  have e1 : (j : Int) = ((j : Nat) : Int) := rfl
  by_cases h1 : j < d
  · rw [moveF_out (by omega)]
    simp [List.getElem?_append, h1, hj, show j < n by omega]
    try omega
  · by_cases h2 : j < d + k
    · rw [moveF_in (by omega), show ((s : Int) + ((j : Int) - (d : Int))).toNat = s + (j - d) by omega]
      simp [List.getElem?_append, h1, hj, show min d n = d by omega, show j - d < k by omega]
    · rw [moveF_out (by omega)]
      simp [List.getElem?_append, h1, hj, show min d n = d by omega, show ¬ j - d < k by omega, show d + k + (j - d - k) = j by omega]

end Go.Proofs.YtkjgfblkbjlohaaGreat

namespace Go.Proofs.YtkjgfblkbjlohaaGreat
open Go.RowKit

set_option maxHeartbeats 1000000 in
theorem sethead_yes (ba bw n : Nat) (f : Nat → Int) (bt : Nat) (A : Option Addr) (m cap : Nat) (C : Nat → Cl) (w : World) (h : St w ba bw n f bt A m cap C) (a : Int) (g : Hd) (hq : (objP (atT n f m C a)).2 = 0) (hg : g.ok) (hc : g.cls = (objP (atT n f m C a)).1.hd.cls) :
    Calls Tryz.prog 59 #[stV ba bt, .int .i64 a, hdV g] w fun e w' => e = .returned (.int .i64 0) ∧ St w' ba bw n (putF f a.toNat (hdW g)) bt A m cap C ∧ Only bw w w' := by
  have hSt := Lib.hid h
  obtain ⟨k1, k2, k3, k4, k5, k6⟩ := obj_ok h.tb.ok hq
  have hlt := h.ar.lt2
  have HO := Lib.hid (fun w' (h : St w' ba bw n f bt A m cap C) => object_any ba bw n f bt A m cap C w' h a)
  have HW := Lib.hid (fun w' => word_yes g w' hg)
  have HS := Lib.hid (fun w' (h : Ar w' ba bw n f) => store_at ba bw n f w' h a (by omega) (by omega) (hdW g))
  clear h
  generalize hdW g = W0 at *
  generalize objP (atT n f m C a) = q at *
  obtain ⟨⟨⟨c, ag, fw, mk, fi, dn⟩, r, d, k⟩, x⟩ := q
  obtain ⟨c2, ag2, fw2, mk2, fi2, dn2⟩ := g
  dsimp only at *
  subst hq
  subst hc
  clear hg k2 k3 k4 k5 k6
  unfold stV hdV thV at *
  dsimp only at *
  go_enter Tryz.func59, Tryz.ntmps59
  go_wp2_with fail
  refine named (fun W1 hW1 => ?_)
  have KW1 : Keeps w W1 := by rw [hW1]; exact (((Touch.refl _ w).alloc _).alloc _)
  have BW1_S : BL W1 (w.heap.size) 32 [.pointer (some ⟨ba, 0, none⟩), .pointer (some ⟨bt, 0, none⟩)] := by rw [hW1]; exact (BL.alloc (BL.new1 _ _ _ [.pointer (some ⟨ba, 0, none⟩), .pointer (some ⟨bt, 0, none⟩)] _ (by simp) rfl) _)
  have BW1_H : BL W1 (w.heap.size + 1) 123 [.int .i64 c2, .int .i64 ag2, .int .i64 fw2, .bool mk2, .bool fi2, .bool dn2] := by rw [hW1]; exact (BL.new1 _ _ _ [.int .i64 c2, .int .i64 ag2, .int .i64 fw2, .bool mk2, .bool fi2, .bool dn2] _ (by simp) rfl)
  have zW1 : w.heap.size + 2 ≤ W1.heap.size := by rw [hW1]; simp
  clear hW1
  have l2 := BW1_S.lt
  have l3 := BW1_H.lt
  have c4 : W1.cell? ⟨w.heap.size, 0, none⟩ = some (.pointer (some ⟨ba, 0, none⟩)) := BW1_S.c 0 _ rfl
  have c5 : W1.cell? ⟨w.heap.size, 1, none⟩ = some (.pointer (some ⟨bt, 0, none⟩)) := BW1_S.c 1 _ rfl
  have c6 : W1.cell? ⟨w.heap.size + 1, 0, none⟩ = some (.int .i64 c2) := BW1_H.c 0 _ rfl
  have c7 : W1.cell? ⟨w.heap.size + 1, 1, none⟩ = some (.int .i64 ag2) := BW1_H.c 1 _ rfl
  have c8 : W1.cell? ⟨w.heap.size + 1, 2, none⟩ = some (.int .i64 fw2) := BW1_H.c 2 _ rfl
  have c9 : W1.cell? ⟨w.heap.size + 1, 3, none⟩ = some (.bool mk2) := BW1_H.c 3 _ rfl
  have c10 : W1.cell? ⟨w.heap.size + 1, 4, none⟩ = some (.bool fi2) := BW1_H.c 4 _ rfl
  have c11 : W1.cell? ⟨w.heap.size + 1, 5, none⟩ = some (.bool dn2) := BW1_H.c 5 _ rfl
  refine Calls.mono (HO.out _ (hSt.out.keep KW1)) ?_
  rintro e w12 ⟨rfl, kw12⟩
  have Kw12 := Keeps.trans KW1 kw12
  have Bw12_S := BL.keep BW1_S kw12
  have Bw12_H := BL.keep BW1_H kw12
  have zw12 := kw12.size
  clear l2 l3 c4 c5 c6 c7 c8 c9 c10 c11 BW1_S BW1_H KW1 kw12
  have l13 := Bw12_S.lt
  have l14 := Bw12_H.lt
  have c15 : w12.cell? ⟨w.heap.size, 0, none⟩ = some (.pointer (some ⟨ba, 0, none⟩)) := Bw12_S.c 0 _ rfl
  have c16 : w12.cell? ⟨w.heap.size, 1, none⟩ = some (.pointer (some ⟨bt, 0, none⟩)) := Bw12_S.c 1 _ rfl
  have c17 : w12.cell? ⟨w.heap.size + 1, 0, none⟩ = some (.int .i64 c2) := Bw12_H.c 0 _ rfl
  have c18 : w12.cell? ⟨w.heap.size + 1, 1, none⟩ = some (.int .i64 ag2) := Bw12_H.c 1 _ rfl
  have c19 : w12.cell? ⟨w.heap.size + 1, 2, none⟩ = some (.int .i64 fw2) := Bw12_H.c 2 _ rfl
  have c20 : w12.cell? ⟨w.heap.size + 1, 3, none⟩ = some (.bool mk2) := Bw12_H.c 3 _ rfl
  have c21 : w12.cell? ⟨w.heap.size + 1, 4, none⟩ = some (.bool fi2) := Bw12_H.c 4 _ rfl
  have c22 : w12.cell? ⟨w.heap.size + 1, 5, none⟩ = some (.bool dn2) := Bw12_H.c 5 _ rfl
  go_wp2_with fail
  refine named (fun W23 hW23 => ?_)
  have KW23 : Keeps w W23 := by rw [hW23]; exact (Kw12.alloc _)
  have BW23_S : BL W23 (w.heap.size) 32 [.pointer (some ⟨ba, 0, none⟩), .pointer (some ⟨bt, 0, none⟩)] := by rw [hW23]; exact (BL.alloc Bw12_S _)
  have BW23_H : BL W23 (w.heap.size + 1) 123 [.int .i64 c2, .int .i64 ag2, .int .i64 fw2, .bool mk2, .bool fi2, .bool dn2] := by rw [hW23]; exact (BL.alloc Bw12_H _)
  have BW23_T : BL W23 (w12.heap.size) 128 [.int .i64 c2, .int .i64 ag, .int .i64 fw, .bool mk, .bool fi, .bool dn, .int .i64 r, .int .i64 d, .int .i64 k] := by rw [hW23]; exact (BL.new1 _ _ _ [.int .i64 c2, .int .i64 ag, .int .i64 fw, .bool mk, .bool fi, .bool dn, .int .i64 r, .int .i64 d, .int .i64 k] _ (by simp) rfl)
  have zW23 : w12.heap.size + 1 ≤ W23.heap.size := by rw [hW23]; simp
  clear l13 l14 c15 c16 c17 c18 c19 c20 c21 c22 Bw12_S Bw12_H Kw12 hW23
  have l24 := BW23_S.lt
  have l25 := BW23_H.lt
  have l26 := BW23_T.lt
  refine Calls.mono (HW.out _) ?_
  rintro e w27 ⟨rfl, kw27⟩
  have Kw27 := Keeps.trans KW23 kw27
  have Bw27_S := BL.keep BW23_S kw27
  have Bw27_H := BL.keep BW23_H kw27
  have Bw27_T := BL.keep BW23_T kw27
  have zw27 := kw27.size
  clear l24 l25 l26 BW23_S BW23_H BW23_T KW23 kw27
  have l28 := Bw27_S.lt
  have l29 := Bw27_H.lt
  have l30 := Bw27_T.lt
  have c31 : w27.cell? ⟨w.heap.size, 0, none⟩ = some (.pointer (some ⟨ba, 0, none⟩)) := Bw27_S.c 0 _ rfl
  have c32 : w27.cell? ⟨w.heap.size + 1, 0, none⟩ = some (.int .i64 c2) := Bw27_H.c 0 _ rfl
  have c33 : w27.cell? ⟨w12.heap.size, 0, none⟩ = some (.int .i64 c2) := Bw27_T.c 0 _ rfl
  go_wp2_with fail
  refine Calls.mono (HS.out _ (hSt.out.keep Kw27).ar) ?_
  rintro e w9 ⟨rfl, a9, o9⟩
  go_wp2_with fail
  go_returns
  exact ⟨rfl, (hSt.out.keep Kw27).only a9 o9, (Touch.only Kw27).trans_ o9⟩

end Go.Proofs.YtkjgfblkbjlohaaGreat
