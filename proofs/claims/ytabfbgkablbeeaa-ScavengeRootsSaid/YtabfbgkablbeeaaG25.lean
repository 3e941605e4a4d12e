/- Layer 6, object: SetHead. -/
import Derived.Test.YtabfbgkablbeeaaG07
import Derived.Test.YtabfbgkablbeeaaG06
import Derived.Test.YtabfbgkablbeeaaG03
import Derived.Test.YtabfbgkablbeeaaG16
import Derived.Laws.CopyOwn
import Derived.Laws.Rows
import Derived.Test.YtabfbgkablbeeaaG12
set_option linter.all false

namespace Go.Proofs.Ytabfbgkablbeeaa
open Go.RowKit

set_option maxHeartbeats 1000000 in
theorem older_any (h : Hd) (hk : h.ok) (w : World) : Calls Try.prog 60 #[hdV h] w fun e w' => e = .returned (hdV { h with age := if h.age + 1 ≤ 7 then h.age + 1 else 7 }) ∧ Keeps w w' := by
  obtain ⟨_, ⟨a0, a1⟩, _, _⟩ := hk
  obtain ⟨c, ag, fw, mk, fi, dn⟩ := h
  unfold hdV
  dsimp only at *
  obtain ⟨x, hx⟩ : ∃ x, (if ag + 1 ≤ 7 then ag + 1 else 7) = x := ⟨_, rfl⟩
  have hxm : (if 7 < ag + 1 then 7 else ag + 1) = x := by rw [← hx]; split <;> split <;> omega
  rw [hx]
  clear hx
  have g1 : IntKind.i64.wrap (ag + 1) = ag + 1 := IntWalk.i64_in _ ⟨by omega, by omega⟩
  have hz := zero_hd
  go_enter Try.func60, Try.ntmps60
  go_upto_region 2 with fail
  refine named_code (fun w1 hW1 => ?_)
  have B1 : BL w1 w.heap.size 96 [.int .i64 c, .int .i64 x, .int .i64 fw, .bool mk, .bool fi, .bool dn] := by rw [hW1]; exact (BL.new1 w _ _ [.int .i64 c, .int .i64 x, .int .i64 fw, .bool mk, .bool fi, .bool dn] _ rfl rfl).alloc _
  have B2 : BL w1 (w.heap.size + 1) 96 [.int .i64 0, .int .i64 0, .int .i64 0, .bool false, .bool false, .bool false] := by rw [hW1]; exact BL.new1 _ _ _ [.int .i64 0, .int .i64 0, .int .i64 0, .bool false, .bool false, .bool false] _ (by simp) rfl
  have K1 : Keeps w w1 := by rw [hW1]; exact ((Touch.refl _ w).alloc _).alloc _
  clear hW1 hxm
  have h0 := B1.c 0 _ rfl
  have h1 := B1.c 1 _ rfl
  have h2 := B1.c 2 _ rfl
  have h3 := B1.c 3 _ rfl
  have h4 := B1.c 4 _ rfl
  have h5 := B1.c 5 _ rfl
  go_wp2_with (first | (refine store_bl ?_ 96 (.tmp 2) (.tmp 8) ?_ B2 ?_ [.int .i64 c, .int .i64 x, .int .i64 fw, .bool mk, .bool fi, .bool dn] ?_ sz_hd rfl rfl ?_; rfl; rfl; rfl; rfl; intro X BX kX))
  have s0 := BX.c 0 _ rfl
  have s1 := BX.c 1 _ rfl
  have s2 := BX.c 2 _ rfl
  have s3 := BX.c 3 _ rfl
  have s4 := BX.c 4 _ rfl
  have s5 := BX.c 5 _ rfl
  refine bodyPost_ret (v := .agg #[.int .i64 c, .int .i64 x, .int .i64 fw, .bool mk, .bool fi, .bool dn]) (by simp [results, Try.results60, go_sem, s0, s1, s2, s3, s4, s5]) rfl ⟨rfl, Touch.new K1 kX (by omega)⟩

end Go.Proofs.Ytabfbgkablbeeaa

namespace Go.Proofs.Ytabfbgkablbeeaa
open Go.RowKit

theorem Ar.moved {w : World} {ba bw n : Nat} {f : Nat → Int} (h : Ar w ba bw n f) (g : Nat → Int) (cs : Array Value) (hs : cs.size = n) (hc : ∀ j, j < n → cs[j]? = some (.int .i64 (g j))) :
    Ar (w.setRow bw cs) ba bw n g := by
  have hO : Touch (fun k => k = bw) w (w.setRow bw cs) := ⟨rfl, rfl, rfl, by simp, fun k _ hn => setRow_other w bw k cs hn⟩
  refine ⟨h.head.touch hO h.ne, ?_, h.ne, h.le⟩
  have h1 := setRow_heap w bw _ cs 3 _ h.body
  unfold Blk
  rw [h1]
  congr 2
  apply Array.ext
  · simp [hs]
  · intro k h1 h2
    have := hc k (by omega)
    rw [Array.getElem?_eq_getElem h1] at this
    simpa using this

theorem sz_int : (Try.prog.info? 3).map (·.size) = some 1 := by kernel_rfl
theorem move_yes (ba bw n : Nat) (f : Nat → Int) (w : World) (h : Ar w ba bw n f) (d s k : Nat) (h0 : 0 < k) (hd : d + k ≤ n) (hs : s + k ≤ n) :
    Calls Try.prog 61 #[.pointer (some ⟨ba, 0, none⟩), .int .i64 (d : Int), .int .i64 (s : Int), .int .i64 (k : Int)] w fun e w' => e = .returned (.int .i64 0) ∧ Ar w' ba bw n (moveF f d s k) ∧ Only bw w w' := by
  have HA := Lib.hid h
  have HS1 := Lib.hid (stretch_yes ba bw n f w h d k h0 hd)
  have HS2 := Lib.hid (stretch_yes ba bw n f w h s k h0 hs)
  have hle := h.le
  clear h
  go_enter Try.func61, Try.ntmps61
  go_wp2_with fail
  refine Calls.mono HS1.out ?_
  rintro e w1 ⟨rfl, rfl⟩
  go_wp2_with fail
  refine Calls.mono HS2.out ?_
  rintro e w1 ⟨rfl, rfl⟩
  go_wp2_with (refine wpList_copy_own ?_ (.tmp 33) (.tmp 34) 39 39 ?_ 3 Try.underlying39 sz_int bw d k (n - d) ⟨bw, s, none⟩ k (n - s) ?_ ?_ _ _ HA.out.body ((List.range k).map fun j => .int .i64 (f (s + j))) (by simp) ?hsrc (by simp; omega) ?h1 ?_; rfl; rfl; rfl; rfl)
  case hsrc =>
    intro j v hj
    have hjk : j < k := by
      rcases Nat.lt_or_ge j k with h1 | h1
      · exact h1
      · rw [List.getElem?_eq_none (by simpa using h1)] at hj; cases hj
    simp [hjk] at hj
    subst hj
    rw [add_plain]
    exact HA.out.body.cell (j := s + j) (by omega)
  case h1 =>
    intro v hv
    simp at hv
    obtain ⟨j, _, rfl⟩ := hv
    rfl
  go_ret
  refine ⟨rfl, HA.out.moved _ _ (by simp; omega) (fun j hj => ?_), ⟨rfl, rfl, rfl, by simp, fun k _ hn => setRow_other w bw k _ hn⟩⟩
  have e1 : (j : Int) = ((j : Nat) : Int) := rfl
  by_cases h1 : j < d
  · rw [moveF_out (by omega)]
    simp [List.getElem?_append, h1, hj, show j < n by omega]
    try omega
  · by_cases h2 : j < d + k
    · rw [moveF_in (by omega), show ((s : Int) + ((j : Int) - (d : Int))).toNat = s + (j - d) by omega]
      simp [List.getElem?_append, h1, hj, show min d n = d by omega, show j - d < k by omega]
    · rw [moveF_out (by omega)]
      simp [List.getElem?_append, h1, hj, show min d n = d by omega, show ¬ j - d < k by omega, show d + k + (j - d - k) = j by omega]

end Go.Proofs.Ytabfbgkablbeeaa

namespace Go.Proofs.Ytabfbgkablbeeaa
open Go.RowKit

set_option maxHeartbeats 1000000 in
theorem sethead_yes (ba bw n : Nat) (f : Nat → Int) (bt : Nat) (A : Option Addr) (m cap : Nat) (C : Nat → Cl) (w : World) (h : St w ba bw n f bt A m cap C) (a : Int) (g : Hd) (hq : (objP (atT n f m C a)).2 = 0) (hg : g.ok) (hc : g.cls = (objP (atT n f m C a)).1.hd.cls) :
    Calls Try.prog 42 #[stV ba bt, .int .i64 a, hdV g] w fun e w' => e = .returned (.int .i64 0) ∧ St w' ba bw n (putF f a.toNat (hdW g)) bt A m cap C ∧ Only bw w w' := by
  have hSt := Lib.hid h
  obtain ⟨k1, k2, k3, k4, k5, k6⟩ := obj_ok h.tb.ok hq
  have hlt := h.ar.lt2
  have HO := Lib.hid (fun w' (h : St w' ba bw n f bt A m cap C) => object_any ba bw n f bt A m cap C w' h a)
  have HW := Lib.hid (fun w' => word_yes g w' hg)
  have HS := Lib.hid (fun w' (h : Ar w' ba bw n f) => store_at ba bw n f w' h a (by omega) (by omega) (hdW g))
  clear h
  generalize hdW g = W0 at *
  generalize objP (atT n f m C a) = q at *
  obtain ⟨⟨⟨c, ag, fw, mk, fi, dn⟩, r, d, k⟩, x⟩ := q
  obtain ⟨c2, ag2, fw2, mk2, fi2, dn2⟩ := g
  dsimp only at *
  subst hq
  subst hc
  clear hg k2 k3 k4 k5 k6
  unfold stV hdV thV at *
  dsimp only at *
  go_enter Try.func42, Try.ntmps42
  go_wp2_with fail
  refine named (fun W1 hW1 => ?_)
  have KW1 : Keeps w W1 := by rw [hW1]; exact (((Touch.refl _ w).alloc _).alloc _)
  have BW1_S : BL W1 (w.heap.size) 34 [.pointer (some ⟨ba, 0, none⟩), .pointer (some ⟨bt, 0, none⟩)] := by rw [hW1]; exact (BL.alloc (BL.new1 _ _ _ [.pointer (some ⟨ba, 0, none⟩), .pointer (some ⟨bt, 0, none⟩)] _ (by simp) rfl) _)
  have BW1_H : BL W1 (w.heap.size + 1) 96 [.int .i64 c2, .int .i64 ag2, .int .i64 fw2, .bool mk2, .bool fi2, .bool dn2] := by rw [hW1]; exact (BL.new1 _ _ _ [.int .i64 c2, .int .i64 ag2, .int .i64 fw2, .bool mk2, .bool fi2, .bool dn2] _ (by simp) rfl)
  have zW1 : w.heap.size + 2 ≤ W1.heap.size := by rw [hW1]; simp
  clear hW1
  have l2 := BW1_S.lt
  have l3 := BW1_H.lt
  have c4 : W1.cell? ⟨w.heap.size, 0, none⟩ = some (.pointer (some ⟨ba, 0, none⟩)) := BW1_S.c 0 _ rfl
  have c5 : W1.cell? ⟨w.heap.size, 1, none⟩ = some (.pointer (some ⟨bt, 0, none⟩)) := BW1_S.c 1 _ rfl
  have c6 : W1.cell? ⟨w.heap.size + 1, 0, none⟩ = some (.int .i64 c2) := BW1_H.c 0 _ rfl
  have c7 : W1.cell? ⟨w.heap.size + 1, 1, none⟩ = some (.int .i64 ag2) := BW1_H.c 1 _ rfl
  have c8 : W1.cell? ⟨w.heap.size + 1, 2, none⟩ = some (.int .i64 fw2) := BW1_H.c 2 _ rfl
  have c9 : W1.cell? ⟨w.heap.size + 1, 3, none⟩ = some (.bool mk2) := BW1_H.c 3 _ rfl
  have c10 : W1.cell? ⟨w.heap.size + 1, 4, none⟩ = some (.bool fi2) := BW1_H.c 4 _ rfl
  have c11 : W1.cell? ⟨w.heap.size + 1, 5, none⟩ = some (.bool dn2) := BW1_H.c 5 _ rfl
  refine Calls.mono (HO.out _ (hSt.out.keep KW1)) ?_
  rintro e w12 ⟨rfl, kw12⟩
  have Kw12 := Keeps.trans KW1 kw12
  have Bw12_S := BL.keep BW1_S kw12
  have Bw12_H := BL.keep BW1_H kw12
  have zw12 := kw12.size
  clear l2 l3 c4 c5 c6 c7 c8 c9 c10 c11 BW1_S BW1_H KW1 kw12
  have l13 := Bw12_S.lt
  have l14 := Bw12_H.lt
  have c15 : w12.cell? ⟨w.heap.size, 0, none⟩ = some (.pointer (some ⟨ba, 0, none⟩)) := Bw12_S.c 0 _ rfl
  have c16 : w12.cell? ⟨w.heap.size, 1, none⟩ = some (.pointer (some ⟨bt, 0, none⟩)) := Bw12_S.c 1 _ rfl
  have c17 : w12.cell? ⟨w.heap.size + 1, 0, none⟩ = some (.int .i64 c2) := Bw12_H.c 0 _ rfl
  have c18 : w12.cell? ⟨w.heap.size + 1, 1, none⟩ = some (.int .i64 ag2) := Bw12_H.c 1 _ rfl
  have c19 : w12.cell? ⟨w.heap.size + 1, 2, none⟩ = some (.int .i64 fw2) := Bw12_H.c 2 _ rfl
  have c20 : w12.cell? ⟨w.heap.size + 1, 3, none⟩ = some (.bool mk2) := Bw12_H.c 3 _ rfl
  have c21 : w12.cell? ⟨w.heap.size + 1, 4, none⟩ = some (.bool fi2) := Bw12_H.c 4 _ rfl
  have c22 : w12.cell? ⟨w.heap.size + 1, 5, none⟩ = some (.bool dn2) := Bw12_H.c 5 _ rfl
  go_wp2_with fail
  refine named (fun W23 hW23 => ?_)
  have KW23 : Keeps w W23 := by rw [hW23]; exact (Kw12.alloc _)
  have BW23_S : BL W23 (w.heap.size) 34 [.pointer (some ⟨ba, 0, none⟩), .pointer (some ⟨bt, 0, none⟩)] := by rw [hW23]; exact (BL.alloc Bw12_S _)
  have BW23_H : BL W23 (w.heap.size + 1) 96 [.int .i64 c2, .int .i64 ag2, .int .i64 fw2, .bool mk2, .bool fi2, .bool dn2] := by rw [hW23]; exact (BL.alloc Bw12_H _)
  have BW23_T : BL W23 (w12.heap.size) 101 [.int .i64 c2, .int .i64 ag, .int .i64 fw, .bool mk, .bool fi, .bool dn, .int .i64 r, .int .i64 d, .int .i64 k] := by rw [hW23]; exact (BL.new1 _ _ _ [.int .i64 c2, .int .i64 ag, .int .i64 fw, .bool mk, .bool fi, .bool dn, .int .i64 r, .int .i64 d, .int .i64 k] _ (by simp) rfl)
  have zW23 : w12.heap.size + 1 ≤ W23.heap.size := by rw [hW23]; simp
  clear l13 l14 c15 c16 c17 c18 c19 c20 c21 c22 Bw12_S Bw12_H Kw12 hW23
  have l24 := BW23_S.lt
  have l25 := BW23_H.lt
  have l26 := BW23_T.lt
  refine Calls.mono (HW.out _) ?_
  rintro e w27 ⟨rfl, kw27⟩
  have Kw27 := Keeps.trans KW23 kw27
  have Bw27_S := BL.keep BW23_S kw27
  have Bw27_H := BL.keep BW23_H kw27
  have Bw27_T := BL.keep BW23_T kw27
  have zw27 := kw27.size
  clear l24 l25 l26 BW23_S BW23_H BW23_T KW23 kw27
  have l28 := Bw27_S.lt
  have l29 := Bw27_H.lt
  have l30 := Bw27_T.lt
  have c31 : w27.cell? ⟨w.heap.size, 0, none⟩ = some (.pointer (some ⟨ba, 0, none⟩)) := Bw27_S.c 0 _ rfl
  have c32 : w27.cell? ⟨w.heap.size + 1, 0, none⟩ = some (.int .i64 c2) := Bw27_H.c 0 _ rfl
  have c33 : w27.cell? ⟨w12.heap.size, 0, none⟩ = some (.int .i64 c2) := Bw27_T.c 0 _ rfl
  go_wp2_with fail
  refine Calls.mono (HS.out _ (hSt.out.keep Kw27).ar) ?_
  rintro e w9 ⟨rfl, a9, o9⟩
  go_wp2_with fail
  go_returns
  exact ⟨rfl, (hSt.out.keep Kw27).only a9 o9, (Touch.only Kw27).trans_ o9⟩

end Go.Proofs.Ytabfbgkablbeeaa
