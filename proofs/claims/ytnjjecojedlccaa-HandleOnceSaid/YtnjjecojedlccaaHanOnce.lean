/- The law HandleOnce: the walk. -/
import Derived.Test.YtnjjecojedlccaaHanO
import Derived.Deep.DeepCutAuto
import Derived.Deep.CutBlock
import Derived.Carry
namespace Go.Proofs.Ytnjjecojedlccaa
open Go.RowKit

theorem make_set (w : World) : (Instr.makeMap 44 none).run Try.prog w = .ok (.map (some w.heap.size)) (w.alloc (.map #[] 0)) := run_makeMap _ w
theorem SetIs.mono {w : World} {b : Nat} {m : Int → Bool} {c n n' : Nat} (h : SetIs w b m c n) (hn : n ≤ n') : SetIs w b m c n' := by
  obtain ⟨D, h, hD⟩ := h
  exact ⟨D, h.mono hn, hD⟩
theorem SetIs.le {w : World} {b : Nat} {m : Int → Bool} {c n : Nat} (h : SetIs w b m c n) : c ≤ n := by
  obtain ⟨D, h, e, _⟩ := h
  rw [← e]
  exact h.size_le
def Two (a b : Nat) (k : Nat) : Prop := k = a ∨ k = b

def ORel (w : World) (bt bs bg k : Nat) (wr : World) : Prop := ∃ T S G cs cg, Tab wr bt T ∧ WF T k ∧ SetIs wr bs S cs k ∧ SetIs wr bg G cg k ∧ Once T S G cs cg ∧ Keeps w wr

set_option maxRecDepth 100000 in
set_option maxHeartbeats 4000000 in
theorem once_walk (A : Option Addr) (len cap : Nat) (L : Nat → Int) (w : World) (hr : Rd w A len (intF .u8 L)) (hm : len ≤ 9223372036854775807) (hL : InKind .u8 L len) :
    Calls Try.prog 5 #[.slice A len cap] w fun e w' => e = .returned (.bool true) ∧ Keeps w w' := by
  have hz := zero_tab
  have hmk := make_set
  by_cases hlen : len ≤ 300
  · have hgt : decide ((300 : Int) < (len : Int)) = false := by simp; omega
    go_enter Try.func5, Try.ntmps5
    go_wp2_with fail
    refine (awake_any _).mono ?_
    rintro e w1 ⟨rfl, k1⟩
    go_wp2_with fail
    have hT1 := ((tab_made w1 T0).alloc (.map #[] 0)).alloc (.map #[] 0)
    have hS1 := (SetIs.made (w1.alloc (.cells (tabArr T0) 29))).touch (Keeps.trans (Touch.refl _ _) ((Touch.refl _ _).alloc (.map #[] 0))) (fun h => h)
    have hG1 := SetIs.made ((w1.alloc (.cells (tabArr T0) 29)).alloc (.map #[] 0))
    have K1 := ((k1.alloc (.cells (tabArr T0) 29)).alloc (.map #[] 0)).alloc (.map #[] 0)
    have hbt : w.heap.size ≤ w1.heap.size := k1.size
    simp only [World.size_alloc] at hS1 hG1
    have hn1 : w1.heap.size ≠ w1.heap.size + 1 := by omega
    have hn2 : w1.heap.size ≠ w1.heap.size + 1 + 1 := by omega
    have hn3 : w1.heap.size + 1 ≠ w1.heap.size + 1 + 1 := by omega
    have hbs : w.heap.size ≤ w1.heap.size + 1 := by omega
    have hbg : w.heap.size ≤ w1.heap.size + 1 + 1 := by omega
    clear hz hmk k1
    generalize w1.heap.size + 1 + 1 = bg at *
    generalize w1.heap.size + 1 = bs at *
    generalize w1.heap.size = bt at *
    go_loopw [29] (fun i wr => ∃ k : Nat, k ≤ len ∧ i = .int .i64 k ∧ ORel w bt bs bg k wr) (fun i _ => len - (intOf i).toNat)
    case atStart => exact ⟨0, Nat.zero_le _, rfl, T0, _, _, _, _, hT1, wf_T0 _ (by omega) (by omega), hS1, hG1, Once.start, K1⟩
    case round =>
      obtain ⟨k, hk, rfl, T, S, G, cs, cg, hT, hW, hS, hG, hO, K⟩ := hrel
      clear hT1 hS1 hG1 K1
      by_cases hlt : k < len
      · obtain ⟨bl, off, rfl, c0⟩ := (hr.keep K).one hlt
        obtain ⟨d1, d2⟩ := u8_bounds (hL k hlt)
        clear c0
        go_wp2_with fail
        refine (new_any _ T _ _ _ hT hW (by omega)).mono ?_
        rintro e w2 ⟨rfl, hT2, k2⟩
        have W2 := hW.new k (by omega)
        have hS2 := hS.touch k2 (Ne.symm hn1)
        have hG2 := hG.touch k2 (Ne.symm hn2)
        have K2 := K.new k2 hbt
        clear hT hS hG K k2
        go_upto_if 39 with fail
        go_cut [7, 8] from 32 to 55 (fun _ _ wx => ∃ S1 cs1, SetIs wx bs S1 cs1 (k + 1) ∧ Once (newT T k) S1 G cs1 cg ∧ Only bs w2 wx)
        case first => as_aux_lemma =>
          cases hf : freeT T 64 0 with
          | some i =>
            obtain ⟨_, hi, _, _⟩ := freeT_lt _ _ _ hf
            obtain ⟨n0, n1, n2⟩ := hW.2 i (by omega)
            have nN := hW.1
            obtain ⟨s0, v1, hO2⟩ := hO.new k hf n0
            have g1 : newE T = 0 := by simp [newE, hf]
            have v2 : newA T ≤ 100000000 := by simp [newA, hf, hnd]; omega
            have hsz : cs ≤ k := hS2.le
            clear hf hO n0 n1 n2 hi
            rw [g1]
            generalize newA T = v at *
            have hx : I64 v := ⟨by omega, by omega⟩
            have hlook := hS2.look hx
            rw [s0] at hlook
            obtain ⟨w3, hput, hS3, hO3⟩ := hS2.put hx (by omega)
            rw [s0] at hS3
            have HO := Lib.hid hO2
            clear hO2 hx
            go_wp2_with fail
            go_meet
            exact ⟨_, _, hS3, HO.out, hO3⟩
          | none =>
            have g1 : newE T = 3 := by simp [newE, hf]
            have g2 : newT T k = T := by simp [newT, hf]
            have g3 := Once.full hf
            rw [g2] at hT2 W2
            rw [g1]
            go_wp2_with fail
            refine (len_any _ T _ _ hT2 W2).mono ?_
            rintro e w3 ⟨rfl, k3⟩
            rw [g3]
            go_wp2_with fail
            go_meet
            exact ⟨_, _, (hS2.touch k3 (fun h => h)).mono (by omega), by rw [g2]; exact hO, k3.only⟩
        case rest => as_aux_lemma =>
          obtain ⟨S1, cs1, hS3, hO3, k3⟩ := hcut
          have hT3 := hT2.touch k3 hn1
          have hG3 := hG2.touch k3 (Ne.symm hn3)
          have K3 := K2.new k3 hbs
          have hMEM := Lib.hid (fun v (h : v ∈ allT (newT T k)) => hO3.mem W2 h)
          have hALL := Lib.hid (fun v (h : v ∈ allT (newT T k)) => mem_on W2 h)
          clear hT2 hS2 hG2 K2 k3 hO hW
          generalize newT T k = T1 at *
          generalize wc = w4 at *
          go_wp2_with fail
          refine (all_any _ T1 _ _ hT3 W2).mono ?_
          rintro e w5 ⟨ad, cp, rfl, hown, k5⟩
          obtain ⟨hrd, hlo⟩ := hown.rd
          have hbt4 := hT3.lt
          have hbg4 := hG3.lt
          have hbs4 := hS3.lt
          have hT5 := Blk.touch hT3 k5 (fun h => h)
          have hS5 := hS3.touch k5 (fun h => h)
          have hG5 := hG3.touch k5 (fun h => h)
          have K5 := Keeps.trans K3 k5
          have HBD := Lib.hid (fun m (h : m < (allT T1).length) => allT_bd W2 h)
          have hl64 := allT_len T1
          have hmm : ∀ m, m < (allT T1).length → S1 ((allT T1).getD m 0) = true ∧ onT T1 ((allT T1).getD m 0) = true := fun m h => by
            rw [List.getD_eq_getElem?_getD, List.getElem?_eq_getElem h]
            exact ⟨hMEM.out _ (List.getElem_mem h), hALL.out _ (List.getElem_mem h)⟩
          have HMM := Lib.hid hmm
          have HLO : Hid (∀ b off, ad = some ⟨b, off, none⟩ → ¬ (b = bt ∨ b = bg)) := fun b off e h => by
            obtain ⟨h1, _⟩ := hlo b off e
            rcases h with h | h <;> omega
          clear hT3 hS3 hG3 K3 k5 hown hlo hMEM hALL hmm
          generalize allT T1 = l at *
          obtain ⟨bl', off', e', c5⟩ := (hr.keep K5).one hlt
          cases e'
          have c6 : w5.cell? ⟨bl, off + k, none⟩ = some (.int .u8 (L k)) := c5
          clear c5
          generalize L k = d at *
          go_upto_region 16 with fail
          go_cut [68] (fun s wx => s = .bool (decide (d % 2 = 1 ∧ 0 < l.length)) ∧ w5 = wx)
          case first => as_aux_lemma =>
            by_cases q : d % 2 = 1
            · have q3 : (d % 2 == 1) = true := by simp [q]
              by_cases q2 : 0 < l.length
              · go_wp2_with fail
                go_meet
                exact ⟨congrArg Value.bool (decide_eq_true ⟨q, q2⟩).symm, rfl⟩
              · have q4 : decide (0 < l.length) = false := decide_eq_false q2
                go_wp2_with fail
                go_meet
                exact ⟨congrArg Value.bool (decide_eq_false (fun h => q2 h.2)).symm, rfl⟩
            · have q3 : (d % 2 == 1) = false := by simp [q]
              go_wp2_with fail
              go_meet
              exact ⟨congrArg Value.bool (decide_eq_false (fun h => q h.1)).symm, rfl⟩
          case rest => as_aux_lemma =>
            obtain ⟨rfl, rfl⟩ := hcut
            go_upto_if 68 with fail
            go_cut [10] from 68 to 86 (fun _ wx => ∃ T2 G2 cg2, Tab wx bt T2 ∧ WF T2 (k + 1) ∧ SetIs wx bg G2 cg2 (k + 1) ∧ Once T2 S1 G2 cs1 cg2 ∧ Touch (fun j => j = bt ∨ j = bg) w5 wx)
            case first => as_aux_lemma =>
              by_cases q : d % 2 = 1 ∧ 0 < l.length
              · rw [decide_eq_true q]
                obtain ⟨q1, q2⟩ := q
                obtain ⟨jx, hjx, hjx'⟩ : ∃ jx : Nat, jx < l.length ∧ (d / 2) % (l.length : Int) = (jx : Int) := ⟨((d / 2) % (l.length : Int)).toNat, by have := Int.emod_lt_of_pos (d / 2) (b := (l.length : Int)) (by omega); omega, by have := Int.emod_nonneg (d / 2) (b := (l.length : Int)) (by omega); omega⟩
                obtain ⟨bl2, off2, rfl, c7⟩ := hrd.one hjx
                have c8 : w5.cell? ⟨bl2, off2 + jx, none⟩ = some (.int .i64 (l.getD jx 0)) := c7
                obtain ⟨y1, y2⟩ := HBD.out jx hjx
                obtain ⟨_, y3⟩ := HMM.out jx hjx
                obtain ⟨y4, y5, y6⟩ := hO3.drop y3
                have hsz : cg ≤ k := hG5.le
                have HO := Lib.hid y6
                clear c7 y3 y6 HMM HBD HLO
                generalize l.getD jx 0 = y at *
                go_wp2_with fail
                refine (drop_any _ _ _ _ _ hT5 W2 (by omega) (by omega)).mono ?_
                rintro e w6 ⟨rfl, hT6, k6⟩
                rw [y5]
                have hG6 := hG5.touch k6 (Ne.symm hn2)
                obtain ⟨w7, hput, hG7, k7⟩ := hG6.put (x := y) ⟨by omega, by omega⟩ (by omega)
                rw [y4] at hG7
                go_wp2_with fail
                go_meet
                exact ⟨_, _, _, hT6.touch k7 hn2, W2.drop y, hG7, HO.out, Touch.trans (k6.mono (fun _ h _ => .inl h)) k7 (fun _ h _ => .inr h)⟩
              · rw [decide_eq_false q]
                go_wp2_with fail
                go_meet
                exact ⟨T1, G, cg, hT5, W2, hG5.mono (by omega), hO3, Touch.refl _ _⟩
            case rest => as_aux_lemma =>
              obtain ⟨T2, G2, cg2, hT6, W6, hG6, hO6, k6⟩ := hcut
              have hS6 := hS5.touch k6 (fun h => by rcases h with h | h <;> omega)
              have hrd6 := hrd.keepS k6 HLO.out
              have K6 := Touch.trans K5 k6 (fun x h hx => by rcases h with h | h <;> omega)
              clear hT5 hS5 hG5 K5 k6 hO3 hrd HLO W2 c6 d1 d2
              generalize wc = w6 at *
              go_wp2_with fail
              go_loopw [89] (fun i wx => ∃ m : Nat, m ≤ l.length ∧ i = .int .i64 m ∧ Keeps w6 wx) (fun i _ => l.length - (intOf i).toNat)
              case atStart => exact ⟨0, Nat.zero_le _, rfl, Touch.refl _ _⟩
              case round =>
                obtain ⟨m, hm', rfl, kx⟩ := hrel
                by_cases hml : m < l.length
                · obtain ⟨bl2, off2, rfl, c7⟩ := (hrd6.keep kx).one hml
                  have c8 : wr.cell? ⟨bl2, off2 + m, none⟩ = some (.int .i64 (l.getD m 0)) := c7
                  obtain ⟨y1, y2⟩ := HBD.out m hml
                  obtain ⟨y3, _⟩ := HMM.out m hml
                  have y4 := hO6.told y3
                  clear c7 y3
                  generalize l.getD m 0 = y at *
                  have hge := get_any bt T2 y wr _ (Blk.touch hT6 kx (fun h => h)) W6 (by omega) (by omega)
                  rw [y4] at hge
                  have HG := Lib.hid hge
                  clear y4 hge
                  go_wp2_with fail
                  refine Calls.mono HG.out ?_
                  rintro e w7 ⟨rfl, k7⟩
                  have kx7 := Keeps.trans kx k7
                  have hlook := (hG6.touch kx7 (fun h => h)).look (x := y) ⟨by omega, by omega⟩
                  have c9 : w7.cell? ⟨bl2, off2 + m, none⟩ = some (.int .i64 y) := by rw [← c8]; exact World.cell?_of_block (k7.block bl2 (World.block_lt_of_cell? _ _ c8) (fun h => h))
                  clear c8 HG
                  cases hgg : G2 y with
                  | true =>
                    rw [hgg] at hlook
                    rw [if_pos rfl]
                    clear hgg
                    go_wp2_with fail
                    go_roundw
                    case rel => exact ⟨m + 1, by omega, by go_num, kx7⟩
                    case measure => simp [intOf]; omega
                  | false =>
                    rw [hgg] at hlook
                    rw [if_neg (by simp)]
                    clear hgg
                    go_wp2_with fail
                    go_roundw
                    case rel => exact ⟨m + 1, by omega, by go_num, kx7⟩
                    case measure => simp [intOf]; omega
                · go_wp2_with fail
                  go_roundw
                  case rel => exact ⟨k + 1, by omega, by go_num, T2, S1, G2, cs1, cg2, Blk.touch hT6 kx (fun h => h), W6, hS6.touch kx (fun h => h), hG6.touch kx (fun h => h), hO6, Keeps.trans K6 kx⟩
                  case measure => simp [intOf]; omega
      · obtain rfl : k = len := by omega
        obtain ⟨w2, hrange, hR2, k2⟩ := hG.range
        have hT2 := Blk.touch hT k2 (fun h => h)
        have hS2 := hS.touch k2 (fun h => h)
        have K2 := Keeps.trans K k2
        have hbr : w.heap.size ≤ wr.heap.size := K.size
        have hbtr := hT.lt
        have hbsr := hS.lt
        have hbgr := hG.lt
        have hnr1 : wr.heap.size ≠ bt := by omega
        have hnr2 : wr.heap.size ≠ bs := by omega
        have hnr3 : wr.heap.size ≠ bg := by omega
        clear hT hS hG K k2 hbtr hbsr hbgr
        generalize wr.heap.size = br at *
        go_wp2_with fail
        go_loopw [] (fun wx => ∃ cnt, RangeIs wx bg br G cg k cnt ∧ Tab wx bt T ∧ SetIs wx bs S cs k ∧ Keeps w wx) (fun wx => wx.rangeLeft bg br)
        case atStart => exact ⟨cg, hR2, hT2, hS2, K2⟩
        case round =>
          obtain ⟨cnt, hR, hT3, hS3, K3⟩ := hrel
          have hleft := Lib.hid hR.left
          rcases hR.next 0 with ⟨h0, hnext⟩ | ⟨x, y, w4, cnt', hx, hmx, hnext, hR4, hlt4, k4, hentry⟩
          · have hsz := Lib.hid hO.n
            have hlen64 := allT_len T
            have hcs : cs ≤ k := hS3.le
            have hGf := hR.set
            clear hR hO hleft h0
            go_wp2_with fail
            refine (len_any _ T _ _ hT3 hW).mono ?_
            rintro e w5 ⟨rfl, k5⟩
            have hl1 := (hS3.touch k5 (fun h => h)).len 3
            have hl2 := (hGf.touch k5 (fun h => h)).len 3
            have hw : IntKind.i64.wrap ((cs : Int) - (cg : Int)) = ((allT T).length : Int) := by
              have := hsz.out
              rw [IntWalk.i64_in _ ⟨by omega, by omega⟩]
              omega
            go_wp2_with fail
            go_ret
            exact ⟨rfl, Keeps.trans K3 k5⟩
          · obtain ⟨e1, e2, e3⟩ := hO.gone hmx
            obtain ⟨x1, x2⟩ := hx
            have hT4 := hT3.touch k4 (Ne.symm hnr1)
            have hS4 := hS3.touch k4 (Ne.symm hnr2)
            have K4 := K3.new k4 hbr
            have hd := drop_any bt T x w4 _ hT4 hW x1 x2
            rw [e1, e2] at hd
            have HD := Lib.hid hd
            have hs := fun w5 (h : Tab w5 bt T) => set_any bt T x 1 w5 _ h hW x1 x2
            have HS := Lib.hid hs
            have HE1 := Lib.hid e1
            have HE3 := Lib.hid (e3 1)
            clear hd hs e1 e2 e3 hmx hR hT3 hS3 K3 k4
            go_wp2_with fail
            refine Calls.mono HD.out ?_
            rintro e w5 ⟨rfl, hT5, k5⟩
            go_wp2_with fail
            refine (HS.out w5 hT5).mono ?_
            rintro e w6 ⟨rfl, hT6, k6⟩
            rw [HE1.out]
            rw [HE3.out] at hT6
            have hR6 := (hR4.touch k5 (Ne.symm hn2) hnr1).touch k6 (Ne.symm hn2) hnr1
            go_wp2_with fail
            go_roundw
            case rel => exact ⟨cnt', hR6, hT6, (hS4.touch k5 (Ne.symm hn1)).touch k6 (Ne.symm hn1), (K4.new k5 hbt).new k6 hbt⟩
            case measure => rw [hR6.left, hleft.out]; exact hlt4
  · have hgt : decide ((300 : Int) < (len : Int)) = true := by simp; omega
    go_enter Try.func5, Try.ntmps5
    go_wp2_with fail
    refine (awake_any _).mono ?_
    rintro e w1 ⟨rfl, k1⟩
    go_wp2_with fail
    refine (awake_any _).mono ?_
    rintro e w2 ⟨rfl, k2⟩
    go_wp2_with fail
    go_ret
    exact ⟨rfl, Keeps.trans k1 k2⟩

end Go.Proofs.Ytnjjecojedlccaa
