/- The law's grid by contract. -/
import Derived.Test.YtnpmadnihheahaaPlotM
import Derived.Test.YtnpmadnihheahaaPlotO
import Derived.Carry
namespace Go.Proofs.Ytnpmadnihheahaa
open Go.RowKit

theorem gN_at {s : Nat → Int} {i : Nat} : ∀ {n : Nat}, i < n → n ≤ 4096 → gN s (St i).x (St i).y n = s i
  | n + 1, h, hn => by
    rw [gN_succ]
    by_cases e : i = n
    · subst e; rw [if_pos ⟨rfl, rfl⟩]
    · rw [if_neg (fun k => e (by have := sp_inj (by omega) (by omega) k.1 k.2; omega))]
      exact gN_at (by omega) (by omega)

set_option maxRecDepth 100000 in
set_option maxHeartbeats 1000000 in
theorem grid_any (s : ByteArray) (w : World) (h0 : 0 < s.size) (h1 : s.size ≤ 2000) :
    Calls Try.prog 19 #[.string s] w fun e w' => ∃ b, e = .returned (.map (some b)) ∧ GMap w' b s.size (byt s) ∧ w.heap.size ≤ b ∧ Keeps w w' := by
  have hn : s.size ≤ 4096 := by omega
  have hd := fun w => draw_any s w (by omega)
  rw [cutS_small hn] at hd
  have HD := Lib.hid hd
  have HC := Lib.hid (show cnt s = hei (bxN s.size) from if_neg (by omega))
  have hmk : ∀ w : World, (Instr.makeMap 47 none).run Try.prog w = .ok (.map (some w.heap.size)) (w.alloc (.map #[] 0)) := fun w => run_makeMap _ w
  clear hd
  go_enter Try.func19, Try.ntmps19
  go_wp2_with fail
  have hG0 := GMap.made w (byt s)
  have hbm : w.heap.size < (w.alloc (.map #[] 0)).heap.size := by simp
  have K0 : Keeps w (w.alloc (.map #[] 0)) := (Touch.refl _ w).alloc _
  generalize w.alloc (.map #[] 0) = w1 at *
  obtain ⟨bm, hbm'⟩ : ∃ bm, w.heap.size = bm := ⟨_, rfl⟩
  rw [hbm'] at hG0 hbm ⊢
  have HBM := Lib.hid hbm'
  clear hbm' hmk
  refine (HD.out _).mono ?_
  rintro e w2 ⟨ad, cp, rfl, hrd, k2⟩
  rw [HC.out] at hrd ⊢
  have hG2 := hG0.touch k2 (fun h => h)
  have K2 := Keeps.trans K0 k2
  have hrb : ∀ b off, ad = some ⟨b, off, none⟩ → True := fun _ _ _ => trivial
  clear hG0 K0 k2 hrb
  go_wp2_with fail
  have hl0 : bxN 0 = ⟨0, 0, 0, 0⟩ := rfl
  have hz := Lib.hid zero_float
  go_loopw [5, 6, 20] (fun l u i wr => ∃ k : Nat, k ≤ s.size ∧ i = .int .i64 k ∧ l = .float .f64 (fB (bxN k).l) ∧ u = .float .f64 (fB (bxN k).u) ∧ Keeps w2 wr) (fun _ _ i _ => s.size - (intOf i).toNat)
  case atStart => exact ⟨0, Nat.zero_le _, rfl, by rw [hl0]; exact congrArg _ hz.out.symm, by rw [hl0]; exact congrArg _ hz.out.symm, Touch.refl _ _⟩
  case round =>
    obtain ⟨k, hk, rfl, rfl, rfl, kx⟩ := hrel
    by_cases hlt : k < s.size
    · have hp := place_any (k : Int) wr (by omega) (by omega)
      rw [Int.toNat_natCast] at hp
      have HP := Lib.hid hp
      have q := sp k (by omega)
      obtain ⟨q1, q2, q3, q4, _⟩ := q
      obtain ⟨o1, o2, o3, o4, o5, o6, o7, o8⟩ := bx_ok k (by omega)
      have m1 := fun ts t => fmin ts t (bxN k).l (St k).x (by omega) (by omega) (by omega) (by omega)
      have m2 := fun ts t => fmax ts t (bxN k).u (St k).y (by omega) (by omega) (by omega) (by omega)
      have HN := Lib.hid (show bxN (k + 1) = (bxN k).put (St k).x (St k).y from rfl)
      clear hp q1 q2 q3 q4 o1 o2 o3 o4 o5 o6 o7 o8
      generalize fB (St k).x = xx at *
      generalize fB (St k).y = yy at *
      go_wp2_with fail
      refine Calls.mono HP.out ?_
      rintro e w3 ⟨rfl, k3⟩
      go_wp2_with fail
      go_roundw
      case rel => exact ⟨k + 1, by omega, by go_num, by rw [HN.out]; rfl, by rw [HN.out]; rfl, Keeps.trans kx k3⟩
      case measure => simp [intOf]; omega
    · obtain rfl : k = s.size := by omega
      have hrd3 := hrd.keep kx
      have hG3 := hG2.touch kx (fun h => h)
      have K3 := Keeps.trans K2 kx
      have hrbk : ∀ b off, ad = some ⟨b, off, none⟩ → b ≠ bm := fun b off e h => by
        obtain ⟨b', off', e', _, hc⟩ := hrd3 (by
          obtain ⟨o1, o2, o3, o4, o5, o6, o7, o8⟩ := bx_ok s.size (by omega)
          unfold hei; omega)
        rw [e] at e'
        cases e'
        have h1 := hc 0 (by
          obtain ⟨o1, o2, o3, o4, o5, o6, o7, o8⟩ := bx_ok s.size (by omega)
          unfold hei; omega)
        have h2 : wr.heap[b]? = some (.map (esN 0 (byt s)).toArray 0) := by rw [h]; exact hG3
        simp [World.cell?, h2] at h1
      have HRB := Lib.hid hrbk
      clear hrd hG2 K2 kx hrbk hl0 hz hbm
      go_wp2_with fail
      generalize wr = w3 at *
      go_loopw [39] (fun i wx => ∃ k : Nat, k ≤ s.size ∧ i = .int .i64 k ∧ GMap wx bm k (byt s) ∧ Only bm w3 wx) (fun i _ => s.size - (intOf i).toNat)
      case atStart => exact ⟨0, Nat.zero_le _, rfl, hG3, Only.refl bm w3⟩
      case round =>
        obtain ⟨k, hk, rfl, hG, hO⟩ := hrel
        clear hG3
        by_cases hlt : k < s.size
        · have hp := place_any (k : Int) wr (by omega) (by omega)
          rw [Int.toNat_natCast] at hp
          have HP := Lib.hid hp
          have q := sp k (by omega)
          obtain ⟨q1, q2, q3, q4, _⟩ := q
          obtain ⟨o1, o2, o3, o4, o5, o6, o7, o8⟩ := bx_ok s.size (by omega)
          obtain ⟨x1, x2, x3, x4⟩ := bx_in (j := k) (k := s.size) hlt
          have m1 := fun t => fsub t (bxN s.size).u (St k).y (by omega) (by omega) (by omega) (by omega)
          have m2 := fun t => fsub t (St k).x (bxN s.size).l (by omega) (by omega) (by omega) (by omega)
          have v1 := conv_fi2 ((bxN s.size).u - (St k).y) (by omega) (by omega)
          have v2 := conv_fi2 ((St k).x - (bxN s.size).l) (by omega) (by omega)
          obtain ⟨r, hr0, hr1⟩ : ∃ r : Nat, r < hei (bxN s.size) ∧ (bxN s.size).u - (St k).y = (r : Int) := ⟨((bxN s.size).u - (St k).y).toNat, by unfold hei; omega, by omega⟩
          obtain ⟨c, hc0, hc1⟩ : ∃ c : Nat, c < wid (bxN s.size) ∧ (St k).x - (bxN s.size).l = (c : Int) := ⟨((St k).x - (bxN s.size).l).toNat, by unfold wid; omega, by omega⟩
          have hby := lnS_byte s r c hc0
          rw [show (bxN s.size).l + (c : Int) = (St k).x from by omega, show (bxN s.size).u - (r : Int) = (St k).y from by omega, gN_at hlt hn] at hby
          have hsz := lnS_size s r
          rw [hr1] at m1 v1
          rw [hc1] at m2 v2
          have hcl : c < (lnS s r).size := by omega
          have hbe := (byt_eq hcl).trans hby
          have HRD := Lib.hid (fun wx (h : Only bm w3 wx) => (show ∃ b off, ad = some ⟨b, off, none⟩ ∧ wx.cell? ⟨b, off + r, none⟩ = some (.string (lnS s r)) from by
            obtain ⟨b, off, e, hc⟩ := (hrd3.keepS h (fun b off e k => HRB.out b off e k)).one hr0
            exact ⟨b, off, e, hc⟩))
          have HPUT := Lib.hid (fun wx (h : GMap wx bm k (byt s)) => h.put (by omega))
          have i1 : (0 : Int) ≤ (r : Int) := by omega
          have i2 : (r : Int) < (hei (bxN s.size) : Int) := by omega
          have i3 : (0 : Int) ≤ (c : Int) := by omega
          have i4 : (c : Int) < (wid (bxN s.size) : Int) := by omega
          clear hp hby q1 q2 q3 q4 o1 o2 o3 o4 o5 o6 o7 o8 x1 x2 x3 x4 hr1 hc1
          unfold posV at HPUT
          generalize fB (St k).x = xx at *
          generalize fB (St k).y = yy at *
          generalize lnS s r = line at *
          go_wp2_with fail
          refine Calls.mono HP.out ?_
          rintro e w4 ⟨rfl, k4⟩
          have hO4 := hO.keep k4
          obtain ⟨bl, off, rfl, c1⟩ := HRD.out w4 hO4
          obtain ⟨w5, hput, hG5, k5⟩ := HPUT.out w4 (hG.touch k4 (fun h => h))
          rw [← hbe] at hput
          clear hbe HRD HPUT hG hO k4
          go_wp2_with fail
          go_roundw
          case rel => exact ⟨k + 1, by omega, by go_num, hG5, Only.trans_ hO4 k5⟩
          case measure => simp [intOf]; omega
        · obtain rfl : k = s.size := by omega
          go_wp2_with fail
          go_ret
          exact ⟨bm, rfl, hG, Nat.le_of_eq HBM.out, K3.new hO (Nat.le_of_eq HBM.out)⟩

end Go.Proofs.Ytnpmadnihheahaa
