/- Slide: the reference's Plan. -/
import Derived.Test.YtkjgfblkbjlohaaGreatG15
import Derived.Deep.RegionHeld3
set_option linter.all false

namespace Go.Proofs.YtkjgfblkbjlohaaGreat
open Go.RowKit

/-- One space more, as a step of a region that draws its order. -/
theorem step_app_sp {T S : TypeId} (hS : Tryz.prog.underlying S = some (.slice T)) (info : (Tryz.prog.info? T).map (fun i => (i.zero, i.size, i.bytes)) = some (some (.agg #[.int .i64 0, .int .i64 0, .int .i64 0]), 3, 24))
    {ops : Array Oper} {o : Oper} {a : Act} {K : Act → World → Prop} {Q : Exit → Act → World → Prop} {E : Prop} {w : World} (hgd : o.guard = none) (s x : Operand)
    (ho : o.op = .call { callee := .builtin .append, args := #[s, x], argTypes := #[S, S] })
    (base : Nat) (v : Value) (F : Nat → Sp) (n : Nat) (hown : OwnSp T w base v F n) (hs : a.eval s = v) (N : Nat) (hx : a.eval x = .slice (some ⟨N, 0, none⟩) 1 1)
    (hc0 : w.cell? ⟨N, 0, none⟩ = some (.int .i64 (F n).f)) (hc1 : w.cell? ⟨N, 1, none⟩ = some (.int .i64 (F n).t)) (hc2 : w.cell? ⟨N, 2, none⟩ = some (.int .i64 (F n).e)) (hl : n ≤ 1000000) (hbase : base ≤ w.heap.size)
    (h : ∀ v' w', OwnSp T w' base v' F (n + 1) → w.grownBy w' v.ownBlock → (v'.ownBlock = v.ownBlock ∨ v'.ownBlock = some w.heap.size) → K (a.put o.dst v') w') :
    if Region.wanted o (yielded ops a.tmps) = true then Oper.wp Tryz.prog o a w K Q else E := by
  have hw : Region.wanted o (yielded ops a.tmps) = true := by simp [Region.wanted, hgd]
  rw [if_pos hw]
  obtain ⟨i0, hi, hz0, hz1, hz2⟩ := info_parts info
  obtain ⟨v', w', hr, h2, h3, _, h5⟩ := run_append_own_at (P := Tryz.prog) w base S o.type T i0 _ 3 24 hS hi hz0 hz1 hz2 rfl (by decide) v n (spcs F n) hown ⟨N, 0, none⟩ 1 1 (spc F n) rfl (by
    intro j u hu
    match j, hu with
    | 0, hu => simp [spc] at hu; subst hu; rw [add_zero_]; exact hc0
    | 1, hu => simp [spc] at hu; subst hu; rw [add_plain]; exact hc1
    | 2, hu => simp [spc] at hu; subst hu; rw [add_plain]; exact hc2
    | j + 3, hu => simp [spc] at hu) (by simp [Value.oneCell', spc]) (by unfold maxLen; omega) (by omega) hbase
  unfold Oper.wp execOp
  simp only [ho, resolve, invoke, builtin, Sem.run_bind, Sem.run_pure, Result.andThen_ok, List.map_toArray, List.map_cons, List.map_nil, hs, hx, hr]
  exact h _ _ (by unfold OwnSp; rw [spcs_snoc]; exact h2) h3 h5

set_option maxRecDepth 100000 in
set_option maxHeartbeats 4000000 in
theorem rplan16_any (A : Option Addr) (n cap : Nat) (L : Nat → Sp) (B : Option Addr) (m capz : Nat) (Z : Nat → Int) (w : World) (hr : Rd w A (n * 3) (spF L)) (hn : n ≤ 1000) (hz : Rd w B m (intF .i64 Z)) (hm : m ≤ 1000) :
    Calls Tryz.prog 42 #[.slice A n cap, .slice B m capz] w fun e w' => Planned 91 L n Z m w e w' := by
  have HRI := Lib.hid (rrise_any A n cap L w hr (by omega))
  go_enter Tryz.func42, Tryz.ntmps42
  go_wp2_with fail
  refine Calls.mono HRI.out ?_
  rintro e w1 ⟨b1, rfl, hb1, k1⟩
  have HB1 := Lib.hid hb1
  clear hb1
  cases b1 with
  | false =>
    go_wp2_with fail
    go_returns
    refine ⟨_, none, 0, [], 0, L, 1, rfl, .inl ⟨rfl, rfl, rfl, fun h => ?_⟩, OwnInts.nil_ _ _, NowR.nil_ _ _ _ _ _, k1⟩
    exact absurd (HB1.out.2 h.1) (by decide)
  | true =>
    have HRS := Lib.hid (HB1.out.1 rfl)
    clear HB1
    go_wp2_with fail
    go_loopw [18] (fun i wr => ∃ k : Nat, k ≤ m ∧ i = .int .i64 k ∧ (∀ j, j < k → 1 ≤ Z j) ∧ Keeps w wr) (fun i _ => m - (intOf i).toNat)
    case atStart => exact ⟨0, Nat.zero_le _, rfl, fun j h => by omega, k1⟩
    case round =>
      obtain ⟨k, hk, rfl, hall, K1⟩ := hrel
      have HA := Lib.hid hall
      clear hall
      by_cases hlt : k < m
      · obtain ⟨b, off, rfl, c1⟩ := (hz.keep K1).one hlt
        have c2 : wr.cell? ⟨b, off + k, none⟩ = some (.int .i64 (Z k)) := c1
        clear c1
        by_cases hzk : Z k < 1
        · have HZ := Lib.hid hzk
          go_wp2_with fail
          go_returns
          refine ⟨_, none, 0, [], 0, L, 1, rfl, .inl ⟨rfl, rfl, rfl, fun h => ?_⟩, OwnInts.nil_ _ _, NowR.nil_ _ _ _ _ _, K1⟩
          have := h.2 k hlt
          have := HZ.out
          omega
        · have HZ := Lib.hid hzk
          go_wp2_with fail
          go_roundw
          case rel => exact ⟨k + 1, by omega, by go_num, fun j h => by
            rcases (by omega : j < k ∨ j = k) with h' | rfl
            · exact HA.out j h'
            · have := HZ.out; omega, K1⟩
          case measure => simp [intOf]; omega
      · have hpo : ∀ j, j < m → 1 ≤ Z j := fun j h => HA.out j (by omega)
        have HPO := Lib.hid hpo
        clear hpo HA k1
        go_wp2_with fail
        go_loopw [9, 29] (fun v i wx => ∃ k : Nat, k ≤ n ∧ i = .int .i64 k ∧ OwnSp 91 wx w.heap.size v (fun i => emp (L i)) k ∧ Keeps w wx) (fun _ i _ => n - (intOf i).toNat)
        case atStart => exact ⟨0, Nat.zero_le _, rfl, OwnSp.nil_ _ _ _ _, K1⟩
        case round =>
          clear K1 hlt hk
          obtain ⟨k, hk, rfl, hown, K⟩ := hrel
          by_cases hlt : k < n
          · obtain ⟨b, off, rfl, c0, c1, c2⟩ := (hr.keep K).sp hlt
            have hsz := K.size
            have LT := Lib.hid hown.lt
            have hk' : k ≤ 1000000 := by omega
            have hlt' : (k : Int) < (n : Int) := by omega
            have hown4 := (hown.touch ((Touch.refl (fun _ => False) wr).drew) (fun _ _ h => h)).touch ((Touch.refl (fun _ => False) wr.drew).alloc (.cells #[.int .i64 (L k).f, .int .i64 (L k).f, .int .i64 (L k).e] 91)) (fun _ _ h => h)
            have K4 := K.drew.alloc (.cells #[.int .i64 (L k).f, .int .i64 (L k).f, .int .i64 (L k).e] 91)
            go_wp2_with fail
            have hbl := World.block_lt_of_cell? _ _ c0
            have hbw : b < w.heap.size := by obtain ⟨b', _, e0, hb', _⟩ := hr (by omega); cases e0; exact hb'
            have hs9 : w.heap.size ≤ ((wr.drew).alloc (.cells #[.int .i64 (L k).f, .int .i64 (L k).f, .int .i64 (L k).e] 91)).heap.size := by simp; omega
            go_region_held3 (fun w' => w'.cell? ⟨b, off + k * 3, none⟩ = some (.int .i64 (L k).f) ∧ w'.cell? ⟨b, off + k * 3 + 2, none⟩ = some (.int .i64 (L k).e))
              (first | go_keep | (exact ⟨(World.cell?_of_block (K5.block b hbw (fun h => h))).trans ((World.cell?_of_block (K.block b hbw (fun h => h))).symm.trans c0), (World.cell?_of_block (K5.block b hbw (fun h => h))).trans ((World.cell?_of_block (K.block b hbw (fun h => h))).symm.trans c2)⟩))
              (first | (refine step_app_sp Tryz.underlying47 info_rsp rfl (.tmp 32) (.tmp 49) rfl w.heap.size _ _ k hown4 rfl wr.heap.size rfl (made0 _ _ (emp (L k))) (made1 _ _ (emp (L k))) (made2 _ _ (emp (L k))) hk' hs9 ?_; intro v' w5 hown5 g1 a1; have K5 := K4.grown g1 (fun q e hq => by have := (LT.out q e).1; omega); clear a1 g1))
            go_wp2_with fail
            go_roundw
            case rel => exact ⟨k + 1, by omega, by go_num, hown5, K5⟩
            case measure => simp [intOf]; omega
          · obtain rfl : k = n := by omega
            obtain ⟨ad, cp, hv⟩ := hown.form
            subst hv
            have hnow := hown.now
            clear hown
            have hown0 := OwnInts.nil_ wr wr.heap.size
            have HS0 : At 91 L k Z 0 w ad wr.heap.size (.slice none 0 0) (.int .i64 0) wr := ⟨fun j h => by omega, rfl, hown0, hnow, K, Nat.le_refl _⟩
            have htop : w.heap.size ≤ wr.heap.size := K.size
            clear hown0 hnow hlt hk
            generalize wr.heap.size = top at *
            go_wp2_with fail
            go_loopw [8, 11, 54] (fun vo vk i wx => ∃ i' : Nat, i' ≤ m ∧ i = .int .i64 i' ∧ At 91 L k Z i' w ad top vo vk wx) (fun _ _ i _ => m - (intOf i).toNat)
            case atStart => exact ⟨0, by omega, rfl, HS0⟩
            case round =>
              clear HS0
              obtain ⟨i', hi', rfl, hst, rfl, hout, hnow, Kx, htx⟩ := hrel
              have HST := Lib.hid hst
              clear hst
              by_cases hlt : i' < m
              · have hzi : 1 ≤ Z i' := HPO.out i' hlt
                obtain ⟨b, off, rfl, c1⟩ := (hz.keep Kx).one hlt
                have c2 : wr.cell? ⟨b, off + i', none⟩ = some (.int .i64 (Z i')) := c1
                clear c1
                have hn0 : sts L k Z (i' + 1) = stepP k (sts L k Z i') (Z i') := rfl
                have HN := Lib.hid hn0
                have hsu : Stuck L k Z i' → to k (sts L k Z i') (Z i') = k := fun h => h
                have HSU := Lib.hid hsu
                clear hn0 hsu
                have HK := Lib.hid (sts_k (L := L) (n := k) (Z := Z) i')
                have HR := Lib.hid (fun q => sts_right (Z := Z) HRS.out HPO.out i' (by omega) HST.out q)
                have HO := Lib.hid (sts_out (L := L) (n := k) (Z := Z) i')
                have HSK := Lib.hid ((fun h => ⟨i', hlt, h⟩ : to k (sts L k Z i') (Z i') = k → ∃ i, i < m ∧ Stuck L k Z i))
                have hk0 := HK.out
                generalize sts L k Z i' = s at *
                obtain ⟨out, now, k0⟩ := s
                dsimp only at *
                go_wp2_with fail
                go_loopw [11] (fun vk wx => ∃ j : Nat, j ≤ k ∧ k0 ≤ j ∧ vk = .int .i64 j ∧ (∀ q, k0 ≤ q → q < j → (now q).e - (now q).t < Z i') ∧ OwnInts wx top u8 out ∧ NowR 91 wx ad k w.heap.size top now ∧ Keeps w wx ∧ top ≤ wx.heap.size) (fun vk _ => k - (intOf vk).toNat)
                case atStart => exact ⟨k0, hk0, Nat.le_refl _, rfl, fun q h1 h2 => by omega, hout, hnow, Kx, htx⟩
                case round =>
                  clear hout hnow Kx htx c2
                  obtain ⟨j, hj, hkj, rfl, hno, hout, hnow, Ky, hty⟩ := hrel
                  have HNO := Lib.hid hno
                  clear hno
                  have cz : wr.cell? ⟨b, off + i', none⟩ = some (.int .i64 (Z i')) := by
                    obtain ⟨b', off', e', c'⟩ := (hz.keep Ky).one hlt
                    cases e'
                    exact c'
                  by_cases hjlt : j < k
                  · obtain ⟨gb, rfl, q1, q2, c0, c1, c2, f0, f1, f2⟩ := hnow.at_ hjlt
                    obtain ⟨r1, r2, r3, r4⟩ := (rightB_iff _).1 (HR.out j hjlt)
                    have hjlt' : (j : Int) < (k : Int) := by omega
                    have hne : ((j : Int) == (k : Int)) = false := by simp; omega
                    by_cases hq : (now j).e - (now j).t < Z i'
                    · have HQ := Lib.hid hq
                      have hd : decide ((now j).e - (now j).t < Z i') = true := decide_eq_true hq
                      clear hq
                      go_wp2_with fail
                      go_quiet (fail)
                      go_wp2_with fail
                      go_roundw
                      case rel => exact ⟨j + 1, by omega, by omega, by go_num, fun q h1 h2 => by
                        rcases (by omega : q < j ∨ q = j) with h' | rfl
                        · exact HNO.out q h1 h'
                        · exact HQ.out, hout.touch ((Touch.refl (fun _ => False) wr).drewN _) (fun _ _ h => h), hnow.touch ((Touch.refl (fun _ => False) wr).drewN _) (fun _ _ _ h => h), Ky.drewN _, hty⟩
                      case measure => simp [intOf]; omega
                    · have HQ := Lib.hid hq
                      have hd : decide ((now j).e - (now j).t < Z i') = false := decide_eq_false hq
                      have hlo : out.length ≤ 1000000 := by have := HO.out; omega
                      clear hq
                      go_wp2_with fail
                      go_quiet (fail)
                      have hout1 := hout.touch ((Touch.refl (fun _ => False) wr).drewN nq) (fun _ _ h => h)
                      have hnow1 := hnow.touch ((Touch.refl (fun _ => False) wr).drewN nq) (fun _ _ _ h => h)
                      have K1 := Ky.drewN nq
                      have c1' : (wr.drewN nq).cell? ⟨gb, j * 3 + 1, none⟩ = some (.int .i64 (now j).t) := c1
                      have hsz : top ≤ (wr.drewN nq).heap.size := hty
                      clear hout hnow Ky c0 c1 c2 f0 f1 f2 hty cz
                      generalize wr.drewN nq = w3 at *
                      go_wp2_with (at_builtin; refine app_int rfl (.tmp 85) (.tmp 91) rfl top u8 out ?a1 ?a2 w3.heap.size (now j).t ?a3 ?a4 ?a5 ?a6 ?a7)
                      case a1 => exact hout1.alloc _
                      case a2 => rfl
                      case a3 => rfl
                      case a4 => exact cell_new _ _ _ _ rfl
                      case a5 => exact hlo
                      case a6 => first | omega | (simp; omega)
                      intro v' w5 hown5 g1 a1
                      have TT : Touch (fun b => u8.ownBlock = some b) _ w5 := (Touch.refl _ _).grown g1 (fun k e _ => e)
                      have LT := Lib.hid hout1.lt
                      have hnow5 := (hnow1.touch ((Touch.refl (fun _ => False) _).alloc (.cells #[.int .i64 (now j).t] 3)) (fun _ _ _ h => h)).touch TT (fun q h1 h2 h => by have := (LT.out _ h).1; omega)
                      have K5 := (K1.alloc (.cells #[.int .i64 (now j).t] 3)).grown g1 (fun q e hq => by have := (LT.out _ e).1; omega)
                      have hs5 : top ≤ w5.heap.size := by have := g1.size; simp at this; omega
                      clear g1 a1 TT hnow1 K1 hout1 c1'
                      obtain ⟨gb', e0, _, _, d0, d1, d2, f0, f1, f2⟩ := hnow5.at_ hjlt
                      simp only [Option.some.injEq, Addr.mk.injEq, and_true] at e0
                      subst e0
                      have cz : w5.cell? ⟨b, off + i', none⟩ = some (.int .i64 (Z i')) := by
                        obtain ⟨b', off', e', c'⟩ := (hz.keep K5).one hlt
                        cases e'
                        exact c'
                      clear d0 d2 f0 f2
                      have hqb : (now j).t + Z i' ≤ 4096 := by have := Int.not_lt.2 HQ.out; omega
                      have hqc : -9223372036854775808 ≤ (now j).t + Z i' := by omega
                      go_wp2_with fail
                      go_still_tail 14, (by kernel_rfl)
                      change wpList _ _ _ _ _ w5.drew
                      go_wp2_with fail
                      go_roundw
                      case rel =>
                        have hto := to_hit (s := ⟨out, now, k0⟩) hkj hjlt HNO.out (Int.not_lt.2 HQ.out)
                        have T5 := ((Only.refl gb w5).set (j * 3 + 1) (.int .i64 ((now j).t + Z i'))).drew
                        refine ⟨i' + 1, by omega, by go_num, ?_⟩
                        unfold At
                        rw [HN.out]
                        unfold stepP
                        dsimp only
                        rw [hto]
                        refine ⟨fun q hq => ?_, rfl, hown5.touch T5 (fun q e h => ?_), (hnow5.set1 (k := j) ((now j).t + Z i')).drew, K5.new T5 q1, Nat.le_trans hs5 T5.size⟩
                        · rcases (by omega : q < i' ∨ q = i') with h' | rfl
                          · exact HST.out q h'
                          · intro h
                            have := HSU.out h
                            rw [hto] at this
                            omega
                        · have := (hown5.lt q e).1
                          omega
                      case measure => simp [intOf]; omega
                  · have hjk : j = k := by omega
                    subst hjk
                    go_wp2_with fail
                    go_quiet (fail)
                    go_wp2_with fail
                    go_returns
                    refine ⟨_, none, 0, [], 0, L, 3, rfl, .inr (.inl ⟨rfl, rfl, rfl, ⟨HRS.out, HPO.out⟩, HSK.out ?_⟩), OwnInts.nil_ _ _, NowR.nil_ _ _ _ _ _, Ky.drewN _⟩
                    exact to_none (s := ⟨out, now, k0⟩) hkj HNO.out
              · have hi0 : i' = m := by omega
                clear hi'
                subst hi0
                go_wp2_with fail
                go_returns
                exact ⟨_, ad, cp, _, k, _, 0, rfl, .inr (.inr ⟨rfl, rfl, rfl, rfl, ⟨HRS.out, HPO.out⟩, HST.out⟩), hout.mono htop, hnow.widen htx, Kx⟩

end Go.Proofs.YtkjgfblkbjlohaaGreat
