/- The law PlotLines: the walk. -/
import Derived.Test.YtnpmadnihheahaaPlotK
namespace Go.Proofs.Ytnpmadnihheahaa
open Go.RowKit

def zeros : Array Value := Array.replicate 256 (.int .i64 0)
theorem zero_ints (w : World) : (zeroValue 46).run Try.prog w = .ok (.agg zeros) w := by kernel_rfl
theorem zeros_store (w : World) : Sem.run Try.prog (storeCells ⟨w.heap.size, 0, none⟩ zeros.toList) (w.alloc (.cells zeros 46)) = .ok () (w.alloc (.cells zeros 46)) :=
  run_store_new _ w zeros zeros _ rfl (fun v hv => by
    unfold zeros at hv
    rw [Array.toList_replicate] at hv
    rw [List.eq_of_mem_replicate hv]
    rfl)
/-- The counts. -/
def CntB (w : World) (bc : Nat) (C : Nat → Int) : Prop := Blk w bc 46 256 (fun c => .int .i64 (C c))
theorem CntB.made (w : World) : CntB (w.alloc (.cells zeros 46)) w.heap.size (fun _ => 0) :=
  Blk.made w 256 _ _ zeros Array.size_replicate (fun j h => by unfold zeros; rw [Array.getElem?_replicate, if_pos h])
theorem CntB.set {w : World} {bc : Nat} {C : Nat → Int} (h : CntB w bc C) (c : Nat) (v : Int) {D : Nat → Int} (hD : ∀ j, D j = if j = c then v else C j) : CntB (w.setCell ⟨bc, c, none⟩ (.int .i64 v)) bc D := by
  refine (Blk.set h c (.int .i64 v)).congr fun j _ => ?_
  unfold upd
  rw [hD j]
  split <;> rfl
theorem CntB.drewN {w : World} {bc : Nat} {C : Nat → Int} (n : Nat) (h : CntB w bc C) : CntB (w.drewN n) bc C := Blk.drewN n h
theorem CntB.congr {w : World} {bc : Nat} {C D : Nat → Int} (h : CntB w bc C) (hD : ∀ j, C j = D j) : CntB w bc D :=
  Blk.congr h fun j _ => by rw [hD j]

theorem rowC_next (s : Nat → Int) (k : Nat) (b : Bx) (r : Nat) (c : Int) (m : Nat) : rowC s k b r c (m + 1) = rowC s k b r c m + ind (gN s (b.l + (m : Nat)) (b.u - (r : Nat)) k) c := rfl
theorem allC_next (s : Nat → Int) (k : Nat) (b : Bx) (c : Int) (i : Nat) : allC s k b c (i + 1) = allC s k b c i + rowC s k b i c (wid b) := rfl
theorem rowC_zero (s : Nat → Int) (k : Nat) (b : Bx) (r : Nat) (c : Int) : rowC s k b r c 0 = 0 := rfl
theorem cellC_zero (s : Nat → Int) (c : Int) : cellC s c 0 = 0 := rfl
theorem allC_zero (s : Nat → Int) (k : Nat) (b : Bx) (c : Int) : allC s k b c 0 = 0 := rfl
theorem cellC_next (s : Nat → Int) (c : Int) (k : Nat) : cellC s c (k + 1) = cellC s c k + ind (s k) c := rfl

set_option maxRecDepth 100000 in
set_option maxHeartbeats 1000000 in
theorem lines_walk (s : ByteArray) (w : World) (hs : s.size ≤ 9223372036854775807) :
    Calls Try.prog 9 #[.string s] w fun e w' => e = .returned (.bool true) ∧ Keeps w w' := by
  by_cases h1 : s.size ≤ 2000
  · have g1 : ¬ (2000 : Int) < (s.size : Int) := by omega
    have hz := zero_ints
    have hst := zeros_store
    go_enter Try.func9, Try.ntmps9
    go_wp2_with fail
    refine (awake_any _).mono ?_
    rintro e w1 ⟨rfl, k1⟩
    go_wp2_with fail
    go_loop [20] (fun i => ∃ k : Nat, k ≤ s.size ∧ i = .int .i64 k ∧ ∀ j, j < k → byt s j ≠ 32) (fun i => s.size - (intOf i).toNat)
    case atStart => exact ⟨0, Nat.zero_le _, rfl, fun j h => absurd h (Nat.not_lt_zero _)⟩
    case round =>
      obtain ⟨k, hk, rfl, hall⟩ := hrel
      have HA := Lib.hid hall
      clear hall
      by_cases hlt : k < s.size
      · have hbe := byt_eq hlt
        by_cases q : byt s k = 32
        · have q1 : (((s[k]'hlt).toNat : Int) == 32) = true := by rw [hbe, q]; rfl
          clear q hbe
          go_wp2_with fail
          go_ret
          exact ⟨rfl, k1⟩
        · have q1 : (((s[k]'hlt).toNat : Int) == 32) = false := by rw [hbe]; simpa using q
          have HQ := Lib.hid q
          clear q hbe
          go_wp2_with fail
          go_round
          case rel =>
            refine ⟨k + 1, by omega, by go_num, fun j h => ?_⟩
            rcases (by omega : j < k ∨ j = k) with h' | rfl
            · exact HA.out j h'
            · exact HQ.out
          case measure => simp [intOf]; omega
      · obtain rfl : k = s.size := by omega
        have hd := fun w => draw_any s w hs
        rw [cutS_small (by omega)] at hd
        have HD := Lib.hid hd
        clear hd hs
        go_wp2_with fail
        refine (HD.out _).mono ?_
        rintro e w2 ⟨ad, cp, rfl, hrd, k2⟩
        have K2 := Keeps.trans k1 k2
        go_wp2_with fail
        have hn : s.size ≤ 4096 := by omega
        have hC0 := CntB.made w2
        have hW : wid (bxN s.size) ≤ 65 := by
          obtain ⟨o1, o2, o3, o4, o5, o6, o7, o8⟩ := bx_ok s.size (by omega)
          unfold wid; omega
        have hcl := cnt_le s hn
        have KA : Keeps w2 (w2.alloc (.cells zeros 46)) := (Touch.refl _ w2).alloc _
        have hrd3 := hrd.keep KA
        have hb3 : ∀ b off, ad = some ⟨b, off, none⟩ → cnt s = 0 ∨ b ≠ w2.heap.size := fun b off e => by
          rcases Nat.eq_zero_or_pos (cnt s) with h | h
          · exact .inl h
          · obtain ⟨b', off', e', hb', _⟩ := hrd h
            rw [e] at e'
            cases e'
            exact .inr (by omega)
        have hbw : w.heap.size ≤ w2.heap.size := K2.size
        have K3 := Keeps.trans K2 KA
        clear hz hst hrd KA K2 k1 k2 hlt hk h1 g1
        generalize (w2.alloc (.cells zeros 46)) = w3 at *
        generalize w2.heap.size = bc at *
        have hrdT : ∀ wr q, Only bc w3 wr → q < cnt s → ∃ b off, ad = some ⟨b, off, none⟩ ∧ wr.cell? ⟨b, off + q, none⟩ = some (.string (lnS s q)) ∧ wr.cell? ⟨b, off, none⟩ = some (.string (lnS s 0)) := fun wr q hO hq => by
          obtain ⟨b, off, e, hb, hc⟩ := hrd3 (by omega)
          have hne : b ≠ bc := by
            rcases hb3 b off e with h | h
            · omega
            · exact h
          have hc0 := hc 0 (by omega)
          rw [Nat.add_zero] at hc0
          exact ⟨b, off, e, (World.cell?_of_block (hO.block b hb hne)).trans (hc q hq), (World.cell?_of_block (hO.block b hb hne)).trans hc0⟩
        have HRD := Lib.hid hrdT
        have HSZ := Lib.hid (fun q => lnS_size s q)
        have HBY := Lib.hid (fun q c (h : c < wid (bxN s.size)) => lnS_byte s q c h)
        clear hrdT hrd3 hb3
        go_loopw [33] (fun i wr => ∃ q : Nat, q ≤ cnt s ∧ i = .int .i64 q ∧ CntB wr bc (fun c => allC (byt s) s.size (bxN s.size) c q) ∧ Only bc w3 wr) (fun i _ => cnt s - (intOf i).toNat)
        case atStart => exact ⟨0, Nat.zero_le _, rfl, CntB.congr hC0 (fun j => by rw [allC_zero]), Only.refl bc w3⟩
        case round =>
          obtain ⟨q, hq, rfl, hC, hO⟩ := hrel
          by_cases hlq : q < cnt s
          · obtain ⟨bl, off, rfl, c1, c2⟩ := HRD.out wr q hO hlq
            have z1 := HSZ.out q
            have z2 := HSZ.out 0
            have hby := HBY.out q
            have HB := Lib.hid hby
            have HCEL := Lib.hid (fun wx (h : Only bc w3 wx) => (show wx.cell? ⟨bl, off + q, none⟩ = some (.string (lnS s q)) from by
              obtain ⟨bl', off', e', c1', _⟩ := HRD.out wx q h hlq
              cases e'
              exact c1'))
            have HN := Lib.hid (fun c => allC_next (byt s) s.size (bxN s.size) c q)
            have HAB := Lib.hid (fun c => allC_bd (byt s) s.size (bxN s.size) c q hW)
            clear hby
            generalize lnS s 0 = line0 at *
            generalize lnS s q = line at *
            go_wp2_with fail
            go_quiet (fail)
            go_wp2_with fail
            go_loopw [51] (fun i wx => ∃ m : Nat, m ≤ wid (bxN s.size) ∧ i = .int .i64 m ∧ CntB wx bc (fun c => allC (byt s) s.size (bxN s.size) c q + rowC (byt s) s.size (bxN s.size) q c m) ∧ Only bc w3 wx) (fun i _ => wid (bxN s.size) - (intOf i).toNat)
            case atStart => exact ⟨0, Nat.zero_le _, rfl, CntB.congr (CntB.drewN _ hC) (fun j => by rw [rowC_zero, Int.add_zero]), hO.drewN _⟩
            case round =>
              clear hC hO c1 c2
              obtain ⟨m, hm, rfl, hC, hO⟩ := hrel
              by_cases hlm : m < wid (bxN s.size)
              · have c1 := HCEL.out wr hO
                have hlm2 : m < line.size := by omega
                have hbe := (byt_eq hlm2).trans (HB.out m hlm)
                obtain ⟨bv, hbv⟩ : ∃ bv : Nat, (line[m]'hlm2).toNat = bv := ⟨_, rfl⟩
                have hbv2 : bv < 256 := by rw [← hbv]; exact (line[m]'hlm2).toNat_lt
                rw [hbv] at hbe
                have d1 : wr.cell? ⟨bc, bv, none⟩ = some (.int .i64 (allC (byt s) s.size (bxN s.size) bv q + rowC (byt s) s.size (bxN s.size) q bv m)) := Blk.cell hC hbv2
                have d2 := Blk.frozen hC bv
                have q1 := HAB.out bv
                have q2 := rowC_bd (byt s) s.size (bxN s.size) q bv m
                have HR := Lib.hid (fun c => rowC_next (byt s) s.size (bxN s.size) q c m)
                have HBE := Lib.hid hbe
                have i1 : (0 : Int) ≤ (m : Int) := by omega
                have i2 : (m : Int) < (line.size : Int) := by omega
                have HC := Lib.hid hC
                clear hC hbe
                obtain ⟨C0, hC0'⟩ : ∃ C0, allC (byt s) s.size (bxN s.size) bv q + rowC (byt s) s.size (bxN s.size) q bv m = C0 := ⟨_, rfl⟩
                rw [hC0'] at d1
                have hC1 : 0 ≤ C0 ∧ C0 ≤ 100000 := by omega
                have HC0 := Lib.hid hC0'
                obtain ⟨q3, q4⟩ := hC1
                clear hC0' q1 q2
                go_wp2_with fail
                go_roundw
                case rel =>
                  refine ⟨m + 1, by omega, by go_num, CntB.set HC.out bv _ (fun j => ?_), hO.set _ _⟩
                  rw [HR.out, ← HBE.out]
                  by_cases e : j = bv
                  · subst e
                    rw [if_pos rfl, ← HC0.out]
                    unfold ind
                    rw [if_pos rfl]
                    omega
                  · rw [if_neg e]
                    unfold ind
                    rw [if_neg (by omega)]
                    omega
                case measure => simp [intOf]; omega
              · obtain rfl : m = wid (bxN s.size) := by omega
                go_wp2_with fail
                go_roundw
                case rel => exact ⟨q + 1, by omega, by go_num, CntB.congr hC (fun j => (HN.out j).symm), hO⟩
                case measure => simp [intOf]; omega
          · obtain rfl : q = cnt s := by omega
            go_wp2_with fail
            go_loopw [68] (fun i wx => ∃ k : Nat, k ≤ s.size ∧ i = .int .i64 k ∧ CntB wx bc (fun c => allC (byt s) s.size (bxN s.size) c (cnt s) - cellC (byt s) c k) ∧ Only bc w3 wx) (fun i _ => s.size - (intOf i).toNat)
            case atStart => exact ⟨0, Nat.zero_le _, rfl, CntB.congr hC (fun j => by rw [cellC_zero, Int.sub_zero]), hO⟩
            case round =>
              clear hC hO
              obtain ⟨k, hk, rfl, hC, hO⟩ := hrel
              by_cases hlk : k < s.size
              · have hbe := byt_eq hlk
                obtain ⟨bv, hbv⟩ : ∃ bv : Nat, (s[k]'hlk).toNat = bv := ⟨_, rfl⟩
                have hbv2 : bv < 256 := by rw [← hbv]; exact (s[k]'hlk).toNat_lt
                rw [hbv] at hbe
                have d1 : wr.cell? ⟨bc, bv, none⟩ = some (.int .i64 (allC (byt s) s.size (bxN s.size) bv (cnt s) - cellC (byt s) bv k)) := Blk.cell hC hbv2
                have d2 := Blk.frozen hC bv
                have q1 := allC_bd (byt s) s.size (bxN s.size) bv (cnt s) hW
                have q2 := cellC_bd (byt s) bv k
                have HR := Lib.hid (fun c => cellC_next (byt s) c k)
                have HBE := Lib.hid hbe
                have i1 : (0 : Int) ≤ (k : Int) := by omega
                have i2 : (k : Int) < (s.size : Int) := by omega
                have HC := Lib.hid hC
                clear hC hbe
                obtain ⟨C0, hC0'⟩ : ∃ C0, allC (byt s) s.size (bxN s.size) bv (cnt s) - cellC (byt s) bv k = C0 := ⟨_, rfl⟩
                rw [hC0'] at d1
                have hC1 : -100000 ≤ C0 ∧ C0 ≤ 100000 := by omega
                have HC0 := Lib.hid hC0'
                obtain ⟨q3, q4⟩ := hC1
                clear hC0' q1 q2
                go_wp2_with fail
                go_roundw
                case rel =>
                  refine ⟨k + 1, by omega, by go_num, CntB.set HC.out bv _ (fun j => ?_), hO.set _ _⟩
                  rw [HR.out, ← HBE.out]
                  by_cases e : j = bv
                  · subst e
                    rw [if_pos rfl, ← HC0.out]
                    unfold ind
                    rw [if_pos rfl]
                    omega
                  · rw [if_neg e]
                    unfold ind
                    rw [if_neg (by omega)]
                    omega
                case measure => simp [intOf]; omega
              · obtain rfl : k = s.size := by omega
                have hce := count_end (s := byt s) hn
                have hzero : ∀ c : Nat, c ≠ 32 → allC (byt s) s.size (bxN s.size) c (cnt s) - cellC (byt s) c s.size = 0 := fun c hc => by
                  rcases Nat.eq_zero_or_pos s.size with h | h
                  · have e : cnt s = 0 := if_pos h
                    rw [e, h, allC_zero, cellC_zero]
                    rfl
                  · have e : cnt s = hei (bxN s.size) := if_neg (by omega)
                    rw [e]
                    exact hce.1 c (by omega)
                have hsp : s.size ≠ 0 → (wid (bxN s.size) : Int) * (cnt s : Int) = (s.size : Int) + (allC (byt s) s.size (bxN s.size) 32 (cnt s) - cellC (byt s) 32 s.size) := fun h => by
                  have e : cnt s = hei (bxN s.size) := if_neg h
                  rw [e]
                  exact hce.2
                have HZ := Lib.hid hzero
                have HSP := Lib.hid hsp
                clear hce hzero hsp
                go_wp2_with fail
                go_loop [79] (fun i => ∃ c : Nat, c ≤ 256 ∧ i = .int .i64 c) (fun i => 256 - (intOf i).toNat)
                case atStart => exact ⟨0, Nat.zero_le _, rfl⟩
                case round =>
                  obtain ⟨c, hc, rfl⟩ := hrel
                  by_cases hlc : c < 256
                  · have d1 : wr.cell? ⟨bc, c, none⟩ = some (.int .i64 (allC (byt s) s.size (bxN s.size) c (cnt s) - cellC (byt s) c s.size)) := Blk.cell hC hlc
                    by_cases h32 : c = 32
                    · subst h32
                      go_wp2_with fail
                      go_round
                      case rel => exact ⟨32 + 1, by omega, by go_num⟩
                      case measure => simp [intOf]
                    · rw [HZ.out c h32] at d1
                      have h33 : ((c : Int) != 32) = true := by simp; omega
                      go_wp2_with fail
                      go_round
                      case rel => exact ⟨c + 1, by omega, by go_num⟩
                      case measure => simp [intOf]; omega
                  · obtain rfl : c = 256 := by omega
                    by_cases hz0 : s.size = 0
                    · have hc0 : cnt s = 0 := if_pos hz0
                      rw [hc0]
                      clear hz0 hc0 hC
                      go_wp2_with fail
                      go_quiet (fail)
                      go_wp2_with fail
                      go_ret
                      exact ⟨rfl, (K3.new hO hbw).drewN _⟩
                    · have hsp := HSP.out hz0
                      have hcn : 0 < cnt s := by
                        have e : cnt s = hei (bxN s.size) := if_neg hz0
                        obtain ⟨o1, o2, o3, o4, o5, o6, o7, o8⟩ := bx_ok s.size (by omega)
                        rw [e]; unfold hei; omega
                      obtain ⟨bl, off, rfl, _, c2⟩ := HRD.out wr 0 hO hcn
                      have z2 := HSZ.out 0
                      have d1 : wr.cell? ⟨bc, 32, none⟩ = some (.int .i64 (allC (byt s) s.size (bxN s.size) 32 (cnt s) - cellC (byt s) 32 s.size)) := Blk.cell hC (j := 32) (by omega)
                      have q1 := allC_bd (byt s) s.size (bxN s.size) 32 (cnt s) hW
                      have q2 := cellC_bd (byt s) 32 s.size
                      obtain ⟨C32, hC32⟩ : ∃ C32, allC (byt s) s.size (bxN s.size) 32 (cnt s) - cellC (byt s) 32 s.size = C32 := ⟨_, rfl⟩
                      rw [hC32] at d1 hsp
                      have q3 : -100000 ≤ C32 ∧ C32 ≤ 100000 := by omega
                      obtain ⟨M, hM⟩ : ∃ M, (s.size : Int) + C32 = M := ⟨_, rfl⟩
                      rw [hM] at hsp
                      have wM : IntKind.i64.wrap M = M := IntWalk.i64_in _ ⟨by omega, by omega⟩
                      have hne : ((cnt s : Int) == 0) = false := by simp; omega
                      have hp0 : (0 : Int) < (cnt s : Int) := by omega
                      clear hC32 q1 q2 q3 hC hcl
                      generalize lnS s 0 = line0 at *
                      go_wp2_with fail
                      go_quiet (fail)
                      go_wp2_with fail
                      go_ret
                      exact ⟨rfl, (K3.new hO hbw).drewN _⟩
  · have g1 : (2000 : Int) < (s.size : Int) := by omega
    go_enter Try.func9, Try.ntmps9
    go_wp2_with fail
    refine (awake_any _).mono ?_
    rintro e w1 ⟨rfl, k1⟩
    go_wp2_with fail
    refine (awake_any _).mono ?_
    rintro e w2 ⟨rfl, k2⟩
    go_wp2_with fail
    go_ret
    exact ⟨rfl, Keeps.trans k1 k2⟩

end Go.Proofs.Ytnpmadnihheahaa
