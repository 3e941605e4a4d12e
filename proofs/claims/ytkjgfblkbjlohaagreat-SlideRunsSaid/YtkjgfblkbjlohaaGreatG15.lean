/- Slide: Plan. -/
import Derived.Test.YtkjgfblkbjlohaaGreatG14
import Derived.WalkMore
import Derived.Deep.LoopGhost
set_option linter.all false

namespace Go.Proofs.YtkjgfblkbjlohaaGreat
open Go.RowKit

/-- A plan as it comes out of a call. -/
def Planned (T : TypeId) (L : Nat → Sp) (n : Nat) (Z : Nat → Int) (m : Nat) (w : World) (e : Ending) (w' : World) : Prop :=
  ∃ v1 ad cp out k now err, e = .returned (.tuple #[v1, .slice ad k cp, .int .i64 err]) ∧ PlanIs L n Z m out k now err ∧ OwnInts w' w.heap.size v1 out ∧ NowR T w' ad k w.heap.size w'.heap.size now ∧ Keeps w w'
theorem NowR.nil_ (T : TypeId) (w : World) (base top : Nat) (F : Nat → Sp) : NowR T w none 0 base top F := fun h => by omega
theorem NowR.widen {T : TypeId} {w : World} {ad : Option Addr} {n base top top' : Nat} {now : Nat → Sp} (h : NowR T w ad n base top now) (ht : top ≤ top') : NowR T w ad n base top' now := by
  intro hn
  obtain ⟨g, cap, f, h0, h1, h2, h3⟩ := h hn
  exact ⟨g, cap, f, h0, h1, by omega, h3⟩
/-- A world behind i sizes. -/
def At (T : TypeId) (L : Nat → Sp) (n : Nat) (Z : Nat → Int) (i : Nat) (w : World) (ad : Option Addr) (top : Nat) (vo vk : Value) (wr : World) : Prop :=
  (∀ j, j < i → ¬ Stuck L n Z j) ∧ vk = .int .i64 (sts L n Z i).k ∧ OwnInts wr top vo (sts L n Z i).out ∧ NowR T wr ad n w.heap.size top (sts L n Z i).now ∧ Keeps w wr ∧ top ≤ wr.heap.size

set_option maxRecDepth 100000 in
set_option maxHeartbeats 4000000 in
theorem plan_any (A : Option Addr) (n cap : Nat) (L : Nat → Sp) (B : Option Addr) (m capz : Nat) (Z : Nat → Int) (w : World) (hr : Rd w A (n * 3) (spF L)) (hn : n ≤ 1000) (hz : Rd w B m (intF .i64 Z)) (hm : m ≤ 1000) :
    Calls Tryz.prog 24 #[.slice A n cap, .slice B m capz] w fun e w' => Planned 56 L n Z m w e w' := by
  have HRI := Lib.hid (rise_any A n cap L w hr (by omega))
  have HCO := Lib.hid (fun wx (k : Keeps w wx) => contains_any B m capz Z wx (hz.keep k) (by omega))
  go_enter Tryz.func24, Tryz.ntmps24
  go_wp2_with fail
  go_step3
  go_wp2_with fail
  refine Calls.mono HRI.out ?_
  rintro e w1 ⟨b1, rfl, hb1, k1⟩
  have HB1 := Lib.hid hb1
  clear hb1
  cases b1 with
  | false =>
    go_wp2_with fail
    rw [Exit.noGoto_ret]
    go_returns
    refine ⟨_, none, 0, [], 0, L, 1, rfl, .inl ⟨rfl, rfl, rfl, fun h => ?_⟩, OwnInts.nil_ _ _, NowR.nil_ _ _ _ _ _, k1⟩
    exact absurd (HB1.out.2 h.1) (by decide)
  | true =>
    go_wp2_with fail
    refine (HCO.out _ k1).mono ?_
    rintro e w2 ⟨b2, rfl, hb2, k2⟩
    have HB2 := Lib.hid hb2
    clear hb2
    have K2 := Keeps.trans k1 k2
    clear k1 k2
    cases b2 with
    | true =>
      go_wp2_with fail
      rw [Exit.noGoto_ret]
      go_returns
      refine ⟨_, none, 0, [], 0, L, 1, rfl, .inl ⟨rfl, rfl, rfl, fun h => ?_⟩, OwnInts.nil_ _ _, NowR.nil_ _ _ _ _ _, K2⟩
      exact HB2.out.1 trivial h.2
    | false =>
      have HRS := Lib.hid (HB1.out.1 trivial)
      have HPO := Lib.hid (Classical.not_not.1 (fun h => absurd (HB2.out.2 h) (by decide)))
      clear HB1 HB2
      go_wp2_with fail
      go_loopw [7, 26] (fun v i wr => ∃ k : Nat, k ≤ n ∧ i = .int .i64 k ∧ OwnSp 56 wr w.heap.size v (fun i => emp (L i)) k ∧ Keeps w wr) (fun _ i _ => n - (intOf i).toNat)
      case atStart => exact ⟨0, Nat.zero_le _, rfl, OwnSp.nil_ _ _ _ _, K2⟩
      case round =>
        obtain ⟨k, hk, rfl, hown, K⟩ := hrel
        by_cases hlt : k < n
        · obtain ⟨b, off, rfl, c0, c1, c2⟩ := (hr.keep K).sp hlt
          have hsz := K.size
          have HE := Lib.hid (fun w => empty_any (L k) w (HRS.out k hlt).1)
          have LT := Lib.hid hown.lt
          have KA := K.alloc (.cells #[.int .i64 (L k).f, .int .i64 (L k).t, .int .i64 (L k).e] 56)
          have hown' := hown.touch ((Touch.refl (fun _ => False) wr).alloc (.cells #[.int .i64 (L k).f, .int .i64 (L k).t, .int .i64 (L k).e] 56)) (fun _ _ h => h)
          have hk' : k ≤ 1000000 := by omega
          have y0 := made0 56 wr (L k)
          have y1 := made1 56 wr (L k)
          have y2 := made2 56 wr (L k)
          go_wp2_with fail
          refine (HE.out _).mono ?_
          rintro e w3 ⟨rfl, k3⟩
          unfold agg emp
          have hown3 := hown'.touch k3 (fun _ _ h => h)
          have K3 := Keeps.trans KA k3
          have hsz3 := K3.size
          clear y0 y1 y2 hown hown' KA K k3 c0 c1 c2
          have hown4 := hown3.touch ((Touch.refl (fun _ => False) w3).alloc (.cells #[.int .i64 (L k).f, .int .i64 (L k).f, .int .i64 (L k).e] 56)) (fun _ _ h => h)
          have K4 := K3.alloc (.cells #[.int .i64 (L k).f, .int .i64 (L k).f, .int .i64 (L k).e] 56)
          go_wp2_with (at_builtin; refine app_sp Tryz.underlying33 info_sp rfl (.tmp 30) (.tmp 33) rfl w.heap.size _ _ k hown4 rfl w3.heap.size rfl (made0 _ _ (emp (L k))) (made1 _ _ (emp (L k))) (made2 _ _ (emp (L k))) hk' (by simp; omega) ?_)
          intro v' w5 hown5 g1 a1
          have K5 := K4.grown g1 (fun q e hq => by have := (LT.out q e).1; omega)
          clear a1 g1
          go_wp2_with fail
          go_roundw
          case rel => exact ⟨k + 1, by omega, by go_num, hown5, K5⟩
          case measure => simp [intOf]; omega
        · obtain rfl : k = n := by omega
          obtain ⟨ad, cp, hv⟩ := hown.form
          subst hv
          have hnow := hown.now
          clear hown K2
          have hown0 := OwnInts.nil_ wr wr.heap.size
          have HS0 : At 56 L k Z 0 w ad wr.heap.size (.slice none 0 0) (.int .i64 0) wr := ⟨fun j h => by omega, rfl, hown0, hnow, K, Nat.le_refl _⟩
          have htop : w.heap.size ≤ wr.heap.size := K.size
          clear hown0 hnow hlt hk
          generalize wr.heap.size = top at *
          go_wp2_with fail
          go_step3
          go_wp2_with fail
          go_loopg [10, 11, 38] m (fun g vo vk i wx => ∃ i' : Nat, i' + g = m ∧ i = .int .i64 i' ∧ At 56 L k Z i' w ad top vo vk wx)
          case atStart => exact ⟨0, by omega, rfl, HS0⟩
          case round =>
            obtain ⟨i', hi', rfl, hst, rfl, hout, hnow, Kx, htx⟩ := hrel
            clear HS0
            have HST := Lib.hid hst
            clear hst
            cases gk with
            | zero =>
              have hi0 : i' = m := by omega
              clear hi'
              subst hi0
              go_wp2_with fail
              try rw [Exit.noGoto_ret]
              go_returns
              refine ⟨_, ad, cp, _, k, _, 0, rfl, .inr (.inr ⟨rfl, rfl, rfl, rfl, ⟨HRS.out, HPO.out⟩, HST.out⟩), hout.mono htop, hnow.widen htx, Kx⟩
            | succ g =>
              have hlt : i' < m := by omega
              have hzi : 1 ≤ Z i' := HPO.out i' hlt
              obtain ⟨b, off, rfl, c1⟩ := (hz.keep Kx).one hlt
              have c2 : wr.cell? ⟨b, off + i', none⟩ = some (.int .i64 (Z i')) := c1
              clear c1
              have hn0 : sts L k Z (i' + 1) = stepP k (sts L k Z i') (Z i') := rfl
              have HN := Lib.hid hn0
              have hsu : Stuck L k Z i' → to k (sts L k Z i') (Z i') = k := fun h => h
              have HSU := Lib.hid hsu
              clear hn0 hsu
              have HK := Lib.hid (sts_k (L := L) (n := k) (Z := Z) i')
              have HR := Lib.hid (fun q => sts_right (Z := Z) HRS.out HPO.out i' (by omega) HST.out q)
              have HO := Lib.hid (sts_out (L := L) (n := k) (Z := Z) i')
              have HSK := Lib.hid ((fun h => ⟨i', hlt, h⟩ : to k (sts L k Z i') (Z i') = k → ∃ i, i < m ∧ Stuck L k Z i))
              have hk0 := HK.out
              generalize sts L k Z i' = s at *
              obtain ⟨out, now, k0⟩ := s
              dsimp only at *
              go_wp2_with fail
              go_loopg [10, 11] (k - k0) (fun g2 vo vk wx => ∃ j : Nat, j + g2 = k ∧ k0 ≤ j ∧ vk = .int .i64 j ∧ (∀ q, k0 ≤ q → q < j → (now q).e - (now q).t < Z i') ∧ OwnInts wx top vo out ∧ NowR 56 wx ad k w.heap.size top now ∧ Keeps w wx ∧ top ≤ wx.heap.size)
              case atStart => exact ⟨k0, by omega, Nat.le_refl _, rfl, fun q h1 h2 => by omega, hout, hnow, Kx, htx⟩
              case round =>
                obtain ⟨j, hj, hkj, rfl, hno, hout, hnow, Ky, hty⟩ := hrel
                have HNO := Lib.hid hno
                clear hno
                cases gk with
                | zero =>
                  have hjk : j = k := by omega
                  clear hj
                  subst hjk
                  go_wp2_with fail
                  try rw [Exit.noGoto_ret]
                  go_returns
                  refine ⟨_, none, 0, [], 0, L, 3, rfl, .inr (.inl ⟨rfl, rfl, rfl, ⟨HRS.out, HPO.out⟩, HSK.out ?_⟩), OwnInts.nil_ _ _, NowR.nil_ _ _ _ _ _, Ky⟩
                  exact to_none (s := ⟨out, now, k0⟩) hkj HNO.out
                | succ g2 =>
                  have hjlt : j < k := by omega
                  obtain ⟨gb, rfl, q1, q2, c0, c1, c2', f0, f1, f2⟩ := hnow.at_ hjlt
                  have hta := fun w => take_any (now j) (Z i') w (HR.out j hjlt) hzi
                  by_cases hq : (now j).e - (now j).t < Z i'
                  · simp only [if_pos hq] at hta
                    have HT := Lib.hid hta
                    have HQ := Lib.hid hq
                    clear hta hq
                    go_wp2_with fail
                    refine (HT.out _).mono ?_
                    rintro e w3 ⟨rfl, k3⟩
                    unfold agg
                    go_wp2_with fail
                    go_roundg g2
                    case measure => omega
                    case rel => exact ⟨j + 1, by omega, by omega, by go_num, fun q h1 h2 => by
                      rcases (by omega : q < j ∨ q = j) with h' | rfl
                      · exact HNO.out q h1 h'
                      · exact HQ.out, hout.touch (k3.alloc _) (fun _ _ h => h), hnow.touch (k3.alloc _) (fun _ _ _ h => h), Keeps.trans Ky (k3.alloc _), Nat.le_trans hty (k3.alloc _).size⟩
                  · simp only [if_neg hq] at hta
                    have HT := Lib.hid hta
                    have HQ := Lib.hid hq
                    clear hta hq
                    go_wp2_with fail
                    refine (HT.out _).mono ?_
                    rintro e w3 ⟨rfl, k3⟩
                    unfold agg
                    dsimp only
                    have hk3 := k3.size
                    have hm15 := made_sp 56 w3 { now j with t := (now j).t + Z i' }
                    have hout4 := (hout.touch k3 (fun _ _ h => h)).alloc (.cells #[.int .i64 (now j).f, .int .i64 ((now j).t + Z i'), .int .i64 (now j).e] 56)
                    have hnow4 := (hnow.touch k3 (fun _ _ _ h => h)).touch ((Touch.refl (fun _ => False) w3).alloc (.cells #[.int .i64 (now j).f, .int .i64 ((now j).t + Z i'), .int .i64 (now j).e] 56)) (fun _ _ _ h => h)
                    have K4 := (Keeps.trans Ky k3).alloc (.cells #[.int .i64 (now j).f, .int .i64 ((now j).t + Z i'), .int .i64 (now j).e] 56)
                    have hlo : out.length ≤ 1000000 := by have := HO.out; omega
                    go_wp2_with (at_builtin; refine app_int rfl (.tmp 60) (.tmp 62) rfl top u10 out ?a1 ?a2 (w3.heap.size + 1) (now j).t ?a3 ?a4 ?a5 ?a6 ?a7)
                    case a1 => exact hout4.alloc _
                    case a6 => omega
                    intro v' w5 hown5 g1 a1
                    have TT : Touch (fun b => u10.ownBlock = some b) _ w5 := (Touch.refl _ _).grown g1 (fun k e _ => e)
                    have LT := Lib.hid hout.lt
                    have hm5 := (hm15.alloc (.cells #[.int .i64 (now j).t] 3)).touch TT (fun h => by have := (LT.out _ h).2; omega)
                    have hnow5 := (hnow4.touch ((Touch.refl (fun _ => False) _).alloc (.cells #[.int .i64 (now j).t] 3)) (fun _ _ _ h => h)).touch TT (fun q h1 h2 h => by have := (LT.out _ h).1; omega)
                    have K5 := (K4.alloc (.cells #[.int .i64 (now j).t] 3)).grown g1 (fun q e hq => by have := (LT.out _ e).1; omega)
                    obtain ⟨gb', e0, _, _, d0, d1, d2, f0, f1, f2⟩ := hnow5.at_ hjlt
                    simp only [Option.some.injEq, Addr.mk.injEq, and_true] at e0
                    subst e0
                    have x0 : w5.cell? ⟨w3.heap.size, 0, none⟩ = some (.int .i64 (now j).f) := hm5.cell (j := 0) (by omega)
                    have x1 : w5.cell? ⟨w3.heap.size, 1, none⟩ = some (.int .i64 ((now j).t + Z i')) := hm5.cell (j := 1) (by omega)
                    have x2 : w5.cell? ⟨w3.heap.size, 2, none⟩ = some (.int .i64 (now j).e) := hm5.cell (j := 2) (by omega)
                    have hs5 : top ≤ w5.heap.size := by have := g1.size; simp at this; omega
                    clear g1 a1 TT
                    go_wp2_with fail
                    go_roundg g
                    case measure => omega
                    case rel =>
                      have hto := to_hit (s := ⟨out, now, k0⟩) hkj hjlt HNO.out (Int.not_lt.2 HQ.out)
                      have T5 := (((Only.refl gb w5).set (j * 3) (.int .i64 (now j).f)).set (j * 3 + 1) (.int .i64 ((now j).t + Z i'))).set (j * 3 + 2) (.int .i64 (now j).e)
                      refine ⟨i' + 1, by omega, by go_num, ?_⟩
                      unfold At
                      rw [HN.out]
                      unfold stepP
                      dsimp only
                      rw [hto]
                      refine ⟨fun q hq => ?_, rfl, hown5.touch T5 (fun q e h => ?_), hnow5.set ⟨(now j).f, (now j).t + Z i', (now j).e⟩, K5.new T5 q1, Nat.le_trans hs5 T5.size⟩
                      · rcases (by omega : q < i' ∨ q = i') with h' | rfl
                        · exact HST.out q h'
                        · intro h
                          have := HSU.out h
                          rw [hto] at this
                          omega
                      · have := (hown5.lt q e).1
                        omega

end Go.Proofs.YtkjgfblkbjlohaaGreat
