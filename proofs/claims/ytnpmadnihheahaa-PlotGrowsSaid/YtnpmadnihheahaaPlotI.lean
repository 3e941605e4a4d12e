/- The reference's Draw by contract. -/
import Derived.Test.YtnpmadnihheahaaPlotH
import Derived.Test.YtnpmadnihheahaaPlot3
import Derived.Deep.DeepCutAuto
import Derived.Deep.CutBlock
namespace Go.Proofs.Ytnpmadnihheahaa
open Go.RowKit

theorem cutS_small {s : ByteArray} (h : s.size ≤ 4096) : cutS s = s := by
  unfold cutS
  rw [Nat.min_eq_left h]
  exact ByteArray.extract_zero_size
theorem cutS_big {s : ByteArray} (h : 4096 < s.size) : cutS s = s.extract 0 4096 := by
  unfold cutS
  rw [Nat.min_eq_right (by omega)]
theorem info_u8 : (Try.prog.info? 5).map (fun i => (i.zero, i.size, i.bytes)) = some (some (.int .u8 0), 1, 1) := by kernel_rfl
theorem make_line (n : Nat) (h : n ≤ 1000) (w : World) : (Instr.makeSlice 49 (.int .i64 (n : Int)) (.int .i64 (n : Int))).run Try.prog w = .ok (.slice (some ⟨w.heap.size, 0, none⟩) n n) (w.alloc (.cells (Array.replicate n (.int .u8 0)) 5)) := by
  obtain ⟨i0, hi, hz0, hz1, hz2⟩ := info_parts info_u8
  have h1 := run_make (P := Try.prog) w 49 5 i0 (.int .u8 0) (by kernel_rfl) hi hz0 .i64 .i64 (n : Int) (n : Int) (by omega) (Int.le_refl _) (by rw [hz2]; omega) (by omega)
  rw [h1, hz1]
  have e : madeCells (Value.int .u8 0).cells ((n : Int).toNat * 1) = Array.replicate n (.int .u8 0) := by
    apply Array.ext
    · simp [madeCells]
    · intro j h1 h2
      have e2 : j % 1 = 0 := by omega
      simp [madeCells, Value.cells, e2]
  rw [e]
  simp
theorem line_row (n : Nat) (w : World) : RowB (w.alloc (.cells (Array.replicate n (.int .u8 0)) 5)) w.heap.size n (fun _ => 0) :=
  ⟨_, _, 0, 0, heap_alloc_new w _, by simp, fun j _ h => by omega, fun j hj => by simp [hj]⟩

set_option maxRecDepth 100000 in
set_option maxHeartbeats 4000000 in
theorem rdraw_any (s : ByteArray) (w : World) (hs : s.size ≤ 9223372036854775807) :
    Calls Try.prog 18 #[.string s] w fun e w' => ∃ ad cp, e = .returned (.slice ad (cnt (cutS s)) cp) ∧ Rd w' ad (cnt (cutS s)) (strF (lnS (cutS s))) ∧ Keeps w w' := by
  have hsz := cutS_size s
  go_enter Try.func18, Try.ntmps18
  go_upto_if 17 with fail
  go_cut [0] (fun v wx => v = .string (cutS s) ∧ w = wx)
  case first => as_aux_lemma =>
    by_cases hb : 4096 < s.size
    · have e := cutS_big hb
      have hb' : (4096 : Int) < (s.size : Int) := by omega
      have HE := Lib.hid e
      clear e hsz
      go_wp2_with fail
      go_meet
      exact ⟨by rw [HE.out], rfl⟩
    · have e := cutS_small (s := s) (by omega)
      have hb' : ¬ (4096 : Int) < (s.size : Int) := by omega
      have HE := Lib.hid e
      clear e hsz
      go_wp2_with fail
      go_meet
      exact ⟨by rw [HE.out], rfl⟩
  case rest => as_aux_lemma =>
    obtain ⟨rfl, rfl⟩ := hcut
    have hn : (cutS s).size ≤ 4096 := by omega
    clear hsz hs
    generalize hts : cutS s = t at *
    have HTS := Lib.hid hts
    clear hts
    go_wp2_with fail
    refine (rwalk_any t.size _ (by omega)).mono ?_
    rintro e w2 ⟨a1, c1, a2, c2, rfl, hx, hy, k2⟩
    rw [Nat.min_eq_left hn] at hx hy ⊢
    go_wp2_with fail
    go_loop [5, 6, 7, 8, 28] (fun l r d u i => ∃ k : Nat, k ≤ t.size ∧ i = .int .i64 k ∧ l = .int .i64 (bxN k).l ∧ r = .int .i64 (bxN k).r ∧ d = .int .i64 (bxN k).d ∧ u = .int .i64 (bxN k).u) (fun _ _ _ _ i => t.size - (intOf i).toNat)
    case atStart => exact ⟨0, Nat.zero_le _, rfl, rfl, rfl, rfl, rfl⟩
    case round =>
      obtain ⟨k, hk, rfl, rfl, rfl, rfl, rfl⟩ := hrel
      by_cases hlt : k < t.size
      · obtain ⟨bx, ox, rfl, d1⟩ := hx.one hlt
        obtain ⟨by_, oy, rfl, d2⟩ := hy.one hlt
        have d3 : w2.cell? ⟨bx, ox + k, none⟩ = some (.int .i64 (St k).x) := d1
        have d4 : w2.cell? ⟨by_, oy + k, none⟩ = some (.int .i64 (St k).y) := d2
        have m1 := fun ts t => run_mn ts t (bxN k).l (St k).x
        have m2 := fun ts t => run_mx ts t (bxN k).r (St k).x
        have m3 := fun ts t => run_mn ts t (bxN k).d (St k).y
        have m4 := fun ts t => run_mx ts t (bxN k).u (St k).y
        have HN := Lib.hid (show bxN (k + 1) = (bxN k).put (St k).x (St k).y from rfl)
        clear d1 d2
        go_wp2_with fail
        go_round
        case rel => exact ⟨k + 1, by omega, by go_num, by rw [HN.out]; rfl, by rw [HN.out]; rfl, by rw [HN.out]; rfl, by rw [HN.out]; rfl⟩
        case measure => simp [intOf]; omega
      · obtain rfl : k = t.size := by omega
        by_cases h0 : t.size = 0
        · have hie : t.toList.isEmpty = true := by
            rw [ByteArray.toList_eq, List.isEmpty_iff_length_eq_zero]
            simpa using h0
          have HC : Hid (cnt t = 0) := if_pos h0
          have hbx : bxN t.size = ⟨0, 0, 0, 0⟩ := by rw [h0]; rfl
          rw [hbx]
          clear h0 hx hy hbx
          go_wp2_with fail
          go_loop [10, 11] (fun v y => v = .slice none 0 0 ∧ y = .int .i64 0) (fun _ _ => 0)
          case atStart => exact ⟨rfl, rfl⟩
          case round =>
            obtain ⟨rfl, rfl⟩ := hrel
            go_wp2_with fail
            go_ret
            rw [HTS.out, HC.out]
            exact ⟨none, ⟨0, rfl⟩, fun h => absurd h (Nat.lt_irrefl _), k2⟩
        · have hie : t.toList.isEmpty = false := by
            rw [ByteArray.toList_eq]
            cases hl : t.data.toList with
            | nil => exact absurd (by have := congrArg List.length hl; simpa using this) h0
            | cons a l => rfl
          have HC : Hid (cnt t = hei (bxN t.size)) := if_neg h0
          obtain ⟨o1, o2, o3, o4, o5, o6, o7, o8⟩ := bx_ok t.size (by omega)
          have hH1 : (bxN t.size).u - (bxN t.size).d + 1 = (hei (bxN t.size) : Int) := by unfold hei; omega
          have hW1 : (bxN t.size).r - (bxN t.size).l + 1 = (wid (bxN t.size) : Int) := by unfold wid; omega
          have hW : wid (bxN t.size) ≤ 65 := by unfold wid; omega
          have hmk := make_line (wid (bxN t.size)) (by omega)
          have hlx : ∀ b off, a1 = some ⟨b, off, none⟩ → b < w2.heap.size := fun b off e => by
            obtain ⟨b', off', e', hc⟩ := hx.one (k := 0) (by omega)
            rw [e] at e'
            cases e'
            exact World.block_lt_of_cell? _ _ hc
          have hly : ∀ b off, a2 = some ⟨b, off, none⟩ → b < w2.heap.size := fun b off e => by
            obtain ⟨b', off', e', hc⟩ := hy.one (k := 0) (by omega)
            rw [e] at e'
            cases e'
            exact World.block_lt_of_cell? _ _ hc
          have HLX := Lib.hid hlx
          have HLY := Lib.hid hly
          have HIN := Lib.hid (fun j (h : j < t.size) => bx_in (j := j) (k := t.size) h)
          clear hlx hly
          go_wp2_with fail
          go_loopw [10, 11] (fun v y wr => ∃ q : Nat, q ≤ hei (bxN t.size) ∧ y = .int .i64 ((bxN t.size).u - (q : Nat)) ∧ OwnStrs wr w2.heap.size v (lns t q) ∧ Keeps w2 wr) (fun _ y _ => (intOf y - (bxN t.size).d + 1).toNat)
          case atStart => exact ⟨0, Nat.zero_le _, by simp, OwnStrs.nil_ _ _, Touch.refl _ _⟩
          case round =>
            obtain ⟨q, hq, rfl, hown, kx⟩ := hrel
            have hlq : (lns t q).length = q := by simp [lns]
            by_cases hlt2 : q < hei (bxN t.size)
            · have hyd : ¬ ((bxN t.size).u - (q : Int) < (bxN t.size).d) := by omega
              have hle : (bxN t.size).d ≤ (bxN t.size).u - (q : Int) := by omega
              obtain ⟨Y, hY⟩ : ∃ Y, (bxN t.size).u - (q : Int) = Y := ⟨_, rfl⟩
              rw [hY] at hyd hle ⊢
              have HY := Lib.hid hY
              have hY1 : -32 ≤ Y ∧ Y ≤ 32 := by omega
              obtain ⟨hy1, hy2⟩ := hY1
              clear hY
              go_wp2_with fail
              have hB0 := line_row (wid (bxN t.size)) wr
              have KA : Keeps wr (wr.alloc (.cells (Array.replicate (wid (bxN t.size)) (.int .u8 0)) 5)) := (Touch.refl _ wr).alloc _
              have hszw := kx.size
              have hown3 := hown.alloc (.cells (Array.replicate (wid (bxN t.size)) (.int .u8 0)) 5)
              have L3 := Lib.hid hown.lt
              have k3 := Keeps.trans kx KA
              clear hown
              generalize (wr.alloc (.cells (Array.replicate (wid (bxN t.size)) (.int .u8 0)) 5)) = w3 at *
              clear KA
              generalize wr.heap.size = bl at *
              go_loopw [73] (fun i wx => ∃ m : Nat, m ≤ wid (bxN t.size) ∧ i = .int .i64 m ∧ RowB wx bl (wid (bxN t.size)) (fun c => if c < m then 32 else 0) ∧ Only bl w3 wx) (fun i _ => wid (bxN t.size) - (intOf i).toNat)
              case atStart => exact ⟨0, Nat.zero_le _, rfl, hB0.congr (fun j _ => by simp), Only.refl bl w3⟩
              case round =>
                obtain ⟨m, hm, rfl, hB, hO⟩ := hrel
                by_cases hltm : m < wid (bxN t.size)
                · have e1 := hB.cell hltm
                  have e2 := hB.frozen hltm
                  go_wp2_with fail
                  go_roundw
                  case rel =>
                    refine ⟨m + 1, by omega, by go_num, (hB.set m 32).congr (fun j _ => ?_), hO.set _ _⟩
                    by_cases e : j = m
                    · subst e; simp
                    · by_cases e2 : j < m
                      · have e3 : j < m + 1 := by omega
                        simp [e, e2, e3]
                      · have e3 : ¬ j < m + 1 := by omega
                        simp [e, e2, e3]
                  case measure => simp [intOf]; omega
                · obtain rfl : m = wid (bxN t.size) := by omega
                  have hB4 : RowB wr bl (wid (bxN t.size)) (fun c => gN (byt t) ((bxN t.size).l + (c : Nat)) Y 0) := hB.congr (fun j hj => by simp [hj, gN])
                  clear hB hB0
                  go_wp2_with fail
                  go_loopw [82] (fun i wx => ∃ k : Nat, k ≤ t.size ∧ i = .int .i64 k ∧ RowB wx bl (wid (bxN t.size)) (fun c => gN (byt t) ((bxN t.size).l + (c : Nat)) Y k) ∧ Only bl w3 wx) (fun i _ => t.size - (intOf i).toNat)
                  case atStart => exact ⟨0, Nat.zero_le _, rfl, hB4, hO⟩
                  case round =>
                    obtain ⟨k, hk, rfl, hB5, hO5⟩ := hrel
                    clear hB4 hO
                    by_cases hltk : k < t.size
                    · have hx5 := (hx.keep k3).keepS hO5 (fun b off e k => by have := HLX.out b off e; omega)
                      have hy5 := (hy.keep k3).keepS hO5 (fun b off e k => by have := HLY.out b off e; omega)
                      obtain ⟨bx, ox, rfl, e1⟩ := hx5.one hltk
                      obtain ⟨by_, oy, rfl, e2⟩ := hy5.one hltk
                      have e3 : wr.cell? ⟨bx, ox + k, none⟩ = some (.int .i64 (St k).x) := e1
                      have e4 : wr.cell? ⟨by_, oy + k, none⟩ = some (.int .i64 (St k).y) := e2
                      obtain ⟨x1, x2, x3, x4⟩ := HIN.out k hltk
                      have HN := Lib.hid (show ∀ X, gN (byt t) X Y (k + 1) = if (St k).x = X ∧ (St k).y = Y then byt t k else gN (byt t) X Y k from fun _ => rfl)
                      clear e1 e2 hx5 hy5
                      by_cases hyy : (St k).y = Y
                      · have hyb : ((St k).y == Y) = true := by simp [hyy]
                        obtain ⟨c, hc0, hc1⟩ : ∃ c : Nat, c < wid (bxN t.size) ∧ (St k).x - (bxN t.size).l = (c : Int) := ⟨((St k).x - (bxN t.size).l).toNat, by omega, by omega⟩
                        have f1 := hB5.cell hc0
                        have f2 := hB5.frozen hc0
                        have i1 : (0 : Int) ≤ (c : Int) := by omega
                        have i2 : (c : Int) < (wid (bxN t.size) : Int) := by omega
                        have i3 : (0 : Int) ≤ (k : Int) := by omega
                        have i4 : (k : Int) < (t.size : Int) := by omega
                        have w1 : IntKind.i64.wrap (c : Int) = (c : Int) := IntWalk.i64_in _ ⟨by omega, by omega⟩
                        have HYY := Lib.hid hyy
                        clear hyy
                        go_wp2_with fail
                        go_still_tail 11, (by kernel_rfl)
                        change wpList _ _ _ _ _ wr.drew
                        go_wp2_with fail
                        go_roundw
                        case rel =>
                          rw [byt_eq hltk]
                          refine ⟨k + 1, by omega, by go_num, ((hB5.set c (byt t k)).congr (fun j _ => ?_)).touch (Touch.refl (fun _ => False) _).drew (fun h => h), (hO5.set _ _).drew⟩
                          rw [HN.out, HYY.out]
                          have e : (St k).x = (bxN t.size).l + (j : Nat) ∧ Y = Y ↔ j = c := by
                            constructor
                            · intro h; omega
                            · intro h; exact ⟨by omega, rfl⟩
                          by_cases hj : j = c
                          · rw [if_pos hj, if_pos (e.2 hj)]
                          · rw [if_neg hj, if_neg (fun h => hj (e.1 h))]
                        case measure => simp [intOf]; omega
                      · have hyb : ((St k).y == Y) = false := by simp [hyy]
                        have HYY := Lib.hid hyy
                        clear hyy
                        go_wp2_with fail
                        go_roundw
                        case rel =>
                          refine ⟨k + 1, by omega, by go_num, hB5.congr (fun j _ => ?_), hO5⟩
                          rw [HN.out, if_neg (fun h => HYY.out h.2)]
                        case measure => simp [intOf]; omega
                    · obtain rfl : k = t.size := by omega
                      have hcv := run_convert_bytes_arg wr 49 5 und_bs und_u8 bl 0 (wid (bxN t.size)) (wid (bxN t.size)) (row (byt t) t.size (bxN t.size) q) (by simp [row]) (fun i hi => by
                        rw [Nat.zero_add, hB5.cell hi]
                        simp [row, hi, HY.out]) 9 und_str
                      have HL := Lib.hid (show lns t (q + 1) = lns t q ++ [strOfNums (row (byt t) t.size (bxN t.size) q)] by simp [lns, List.range_succ, lnS])
                      have hown5 := hown3.touch hO5 (fun k e h => by have := (L3.out k e).2; omega)
                      have hsz5 := hO5.size
                      have hsz3 := k3.size
                      have hl6 : (lns t q).length ≤ 1000000 := by unfold hei at hq; omega
                      have k5 : Keeps w2 wr := k3.new hO5 hszw
                      clear hB5 hown3 hO5
                      generalize strOfNums (row (byt t) t.size (bxN t.size) q) = line at *
                      go_wp2_with (at_builtin; refine app_str rfl (.tmp 103) (.tmp 106) rfl w2.heap.size _ (lns t q) (hown5.alloc _) rfl wr.heap.size line rfl (cell_new _ _ _ _ rfl) hl6 (by simp; omega) ?_)
                      intro v' w6 hown6 hg6 _
                      have k6 : Keeps w2 w6 := (k5.alloc _).grown hg6 (fun k e hk => by have := (L3.out k e).1; omega)
                      go_wp2_with fail
                      go_roundw
                      case rel => exact ⟨q + 1, by omega, by have := HY.out; go_num, by rw [HL.out]; exact hown6, k6⟩
                      case measure => have := HY.out; simp [intOf]; omega
            · obtain rfl : q = hei (bxN t.size) := by omega
              have hyd : (bxN t.size).u - (hei (bxN t.size) : Int) < (bxN t.size).d := by omega
              obtain ⟨ad6, cp6, hf⟩ := hown.form
              have hrd : Rd wr ad6 (hei (bxN t.size)) (strF (lnS t)) := by
                rw [hf] at hown
                have := hown.rd
                rw [hlq] at this
                exact this.congr fun j hj => by simp [strF, lns, hj]
              rw [hlq] at hf
              clear hown
              go_wp2_with fail
              go_ret
              rw [HTS.out, HC.out]
              exact ⟨ad6, ⟨cp6, rfl⟩, hrd, Keeps.trans k2 kx⟩

end Go.Proofs.Ytnpmadnihheahaa
