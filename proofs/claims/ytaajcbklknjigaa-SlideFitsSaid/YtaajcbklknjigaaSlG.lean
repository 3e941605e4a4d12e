/- The law SlideFits: the walk. -/
import Derived.Test.YtaajcbklknjigaaSlF
import Derived.Test.YtaajcbklknjigaaSl6
import Derived.Deep.RegionHeld3
import Derived.Deep.DeepCutAuto
import Derived.Deep.CutBlock
namespace Go.Proofs.Ytaajcbklknjigaa
open Go.RowKit

theorem used_any (s : Sp) (w : World) (h : rightB s = true) : Calls Try.prog 12 #[agg s] w fun e w' => e = .returned (.int .i64 (s.t - s.f)) ∧ Keeps w w' := by
  obtain ⟨q1, q2, q3, q4⟩ := (rightB_iff s).1 h
  have HR := Lib.hid (fun w => right_any s w)
  obtain ⟨f, t, en⟩ := s
  unfold agg at *
  rw [h] at HR
  clear h
  dsimp only at *
  go_enter Try.func12, Try.ntmps12
  go_wp2_with fail
  have hB := made_sp 36 w ⟨f, t, en⟩
  refine (HR.out _).mono ?_
  rintro e w1 ⟨rfl, k1⟩
  have hB1 := Blk.touch hB k1 (fun h => h)
  have c0 : w1.cell? ⟨w.heap.size, 0, none⟩ = some (.int .i64 f) := hB1.cell (j := 0) (by omega)
  have c1 : w1.cell? ⟨w.heap.size, 1, none⟩ = some (.int .i64 t) := hB1.cell (j := 1) (by omega)
  go_wp2_with fail
  go_ret
  exact ⟨by go_num, Keeps.trans ((Touch.refl _ w).alloc _) k1⟩
theorem has_any (s : Sp) (x : Int) (w : World) (h : rightB s = true) : Calls Try.prog 11 #[agg s, .int .i64 x] w fun e w' => e = .returned (.bool (hasB s x)) ∧ Keeps w w' := by
  have HR := Lib.hid (fun w => right_any s w)
  have hh0 : hasB s x = (decide (s.f ≤ x) && decide (x < s.t)) := by unfold hasB; rw [h]; simp
  have HH := Lib.hid hh0
  clear hh0
  obtain ⟨f, t, en⟩ := s
  unfold agg at *
  rw [h] at HR
  clear h
  dsimp only at *
  go_enter Try.func11, Try.ntmps11
  go_wp2_with fail
  have hB := made_sp 36 w ⟨f, t, en⟩
  refine (HR.out _).mono ?_
  rintro e w1 ⟨rfl, k1⟩
  have hB1 := Blk.touch hB k1 (fun h => h)
  have c0 : w1.cell? ⟨w.heap.size, 0, none⟩ = some (.int .i64 f) := hB1.cell (j := 0) (by omega)
  have c1 : w1.cell? ⟨w.heap.size, 1, none⟩ = some (.int .i64 t) := hB1.cell (j := 1) (by omega)
  by_cases hf : f ≤ x
  · go_wp2_with fail
    go_ret
    exact ⟨by rw [HH.out]; simp [hf], Keeps.trans ((Touch.refl _ w).alloc _) k1⟩
  · have HF := Lib.hid hf
    go_wp2_with fail
    go_ret
    exact ⟨by rw [HH.out, decide_eq_false (Int.not_le.2 HF.out)]; rfl, Keeps.trans ((Touch.refl _ w).alloc _) k1⟩

/-- How often: an object is in its space and in no other. -/
def inUp (p q : Nat) : Int := if p < q then 1 else 0
theorem inUp_next (p q : Nat) : inUp p (q + 1) = if q = p then inUp p q + 1 else inUp p q := by
  unfold inUp
  by_cases e : q = p
  · subst e; simp
  · rw [if_neg e]
    by_cases h : p < q
    · rw [if_pos h, if_pos (by omega)]
    · rw [if_neg h, if_neg (by omega)]

set_option maxRecDepth 100000 in
set_option maxHeartbeats 40000000 in
theorem fits_walk (A : Option Addr) (n cap : Nat) (L : Nat → Sp) (B : Option Addr) (m capz : Nat) (Z : Nat → Int) (w : World) (hr : Rd w A (n * 3) (spF L)) (hz : Rd w B m (intF .i64 Z)) (hn : n ≤ 9223372036854775807) (hm : m ≤ 9223372036854775807) :
    Calls Try.prog 4 #[.slice A n cap, .slice B m capz] w fun e w' => e = .returned (.bool true) ∧ Keeps w w' := by
  by_cases h1 : n ≤ 20
  · by_cases h2 : m ≤ 100
    · have g1 : decide ((20 : Int) < (n : Int)) = false := by simp; omega
      have g2 : decide ((100 : Int) < (m : Int)) = false := by simp; omega
      go_enter Try.func4, Try.ntmps4
      go_wp2_with fail
      refine (awake_any _).mono ?_
      rintro e w1 ⟨rfl, k1⟩
      have hr1 := hr.keep k1
      have hz1 := hz.keep k1
      go_wp2_with fail
      refine (back_any A n cap L _ hr1 (by omega)).mono ?_
      rintro e w2 ⟨ad, cp, rfl, hown, k2⟩
      have hr2 := hr1.keep k2
      have hz2 := hz1.keep k2
      have hor := hown.rd.1
      clear hown g1 g2
      go_wp2_with fail
      refine (plan_any ad n cp L B m capz Z _ hor (by omega) hz2 (by omega)).mono ?_
      rintro e w3 ⟨v1, ad1, cp1, out1, n1, now1, err1, rfl, hp1, hout1, hnow1, k3⟩
      have hr3 := hr2.keep k3
      have hz3 := hz2.keep k3
      obtain ⟨oa1, oc1, rfl⟩ := hout1.form
      have hn1 := hnow1.rd
      have ho1 := hout1.rd.1
      have K3 := Keeps.trans (Keeps.trans k1 k2) k3
      clear k1 k2 k3 hr1 hz1 hr2 hz2 hor hout1 hnow1
      rcases hp1 with ⟨rfl, rfl, rfl, _⟩ | ⟨rfl, rfl, rfl, _, _⟩ | ⟨rfl, rfl, rfl, rfl, ⟨a1, a2⟩, a3⟩
      · go_wp2_with fail
        go_ret
        exact ⟨rfl, K3⟩
      · go_wp2_with fail
        go_ret
        exact ⟨rfl, K3⟩
      · have W : Well L n1 Z m := ⟨a1, a2, a3⟩
        have hl := sts_out (L := L) (n := n1) (Z := Z) m
        rw [hl] at ho1 ⊢
        have hzb := W.z
        have HS := Lib.hid (fun i h => sum_bd hzb i h)
        have HZ := Lib.hid hzb
        have HNX := Lib.hid (fun i h0 h => W.next (i := i) h0 h)
        have HON := Lib.hid (fun i q h0 h => W.one (i := i) (q := q) h0 h)
        have HLI := Lib.hid (fun i h0 => W.lies (i := i) h0)
        have HBD := Lib.hid (fun q h => W.bd (i := m) (q := q) (Nat.le_refl _) h)
        have HRT := Lib.hid (fun q h => W.right (q := q) h)
        have HRL := Lib.hid (fun q h => (W.rise q h).1)
        have hus := used_sum W m (Nat.le_refl _)
        have hub : ∀ q, q ≤ n1 → 0 ≤ used (sts L n1 Z m).now q ∧ used (sts L n1 Z m).now q ≤ 4096 * q := fun q => by
          induction q with
          | zero => intro _; simp [used]
          | succ q ih =>
            intro h
            have h0 := ih (by omega)
            have h1 := W.bd (i := m) (q := q) (Nat.le_refl _) (by omega)
            have h2 := (sts_fe (L := L) (n := n1) (Z := Z) m q).1
            unfold used
            omega
        have HUS := Lib.hid hus
        have HUB := Lib.hid hub
        have HFE := Lib.hid (fun q => sts_fe (L := L) (n := n1) (Z := Z) m q)
        clear hl W a1 a2 a3 hzb hus hub
        generalize (sts L n1 Z m).out = out at *
        generalize (sts L n1 Z m).now = now at *
        go_wp2_with fail
        go_loopw [8, 44] (fun wd i wr => ∃ i' : Nat, i' ≤ m ∧ i = .int .i64 i' ∧ wd = .int .i64 (sumZ Z i') ∧ Keeps w3 wr) (fun _ i _ => m - (intOf i).toNat)
        case atStart => exact ⟨0, Nat.zero_le _, rfl, rfl, Touch.refl _ _⟩
        case round =>
          obtain ⟨i, hi, rfl, rfl, Kr⟩ := hrel
          by_cases hlt : i < m
          · obtain ⟨b, off, rfl, c1⟩ := (hz3.keep Kr).one hlt
            obtain ⟨ob, oo, rfl, d1⟩ := (ho1.keep Kr).one hlt
            have c2 : wr.cell? ⟨b, off + i, none⟩ = some (.int .i64 (Z i)) := c1
            have d2 : wr.cell? ⟨ob, oo + i, none⟩ = some (.int .i64 (out.getD i 0)) := d1
            clear c1 d1
            obtain ⟨s1, s2⟩ := HS.out i (by omega)
            obtain ⟨z1, z2⟩ := HZ.out i hlt
            obtain ⟨p1, p2, p3⟩ := HLI.out i hlt
            have p4 := HBD.out _ p1
            have hxx : sumZ Z (i + 1) = sumZ Z i + Z i := rfl
            have HX := Lib.hid hxx
            clear hxx
            go_wp2_with fail
            go_cut [72] (fun s wx => s = .bool false ∧ Keeps w3 wx)
            case first => as_aux_lemma =>
              rcases Nat.eq_zero_or_pos i with h0 | h0
              · subst h0
                go_quiet (fail)
                go_wp2_with fail
                go_meet
                exact ⟨rfl, Kr.drewN _⟩
              · obtain ⟨i0, rfl⟩ : ∃ i0, i = i0 + 1 := ⟨i - 1, by omega⟩
                obtain ⟨b', off', e', c3⟩ := (hz3.keep Kr).one (k := i0) (by omega)
                cases e'
                obtain ⟨ob', oo', e', d3⟩ := (ho1.keep Kr).one (k := i0) (by omega)
                cases e'
                have c4 : wr.cell? ⟨b, off + i0, none⟩ = some (.int .i64 (Z i0)) := c3
                have d4 : wr.cell? ⟨ob, oo + i0, none⟩ = some (.int .i64 (out.getD i0 0)) := d3
                clear c3 d3
                have hnx := HNX.out (i0 + 1) (by omega) hlt
                rw [Nat.add_sub_cancel] at hnx
                have hdd : decide (out.getD (i0 + 1) 0 < out.getD i0 0 + Z i0) = false := decide_eq_false (by omega)
                have hpp : decide ((0 : Int) < ((i0 + 1 : Nat) : Int)) = true := by simp
                obtain ⟨y1, y2, y3⟩ := HLI.out i0 (by omega)
                have y4 := HBD.out _ y1
                obtain ⟨y5, y6⟩ := HZ.out i0 (by omega)
                have y7 : 0 ≤ out.getD i0 0 + Z i0 ∧ out.getD i0 0 + Z i0 ≤ 4096 := by have := (HFE.out (pos L n1 Z i0)).1; omega
                obtain ⟨y8, y9⟩ := y7
                clear y1 y2 y3 y4 hnx HS HZ HNX HON HLI HBD HRT HRL HUS HUB HFE HX p2 p3 p4
                generalize out.getD (i0 + 1) 0 = xa at *
                generalize out.getD i0 0 = xb at *
                generalize Z i0 = zb at *
                go_quiet (fail)
                go_wp2_with fail
                go_meet
                exact ⟨rfl, Kr.drewN _⟩
            case rest => as_aux_lemma =>
              obtain ⟨rfl, Kc⟩ := hcut
              clear c2 d2 Kr
              have p5 : 0 ≤ out.getD i 0 ∧ out.getD i 0 + Z i ≤ 4096 := by have := (HFE.out (pos L n1 Z i)).1; omega
              obtain ⟨p6, p7⟩ := p5
              clear p2 p3 p4
              generalize hpp : pos L n1 Z i = p at *
              go_wp2_with fail
              go_loopw [10, 75] (fun cn iv wx => ∃ q : Nat, q ≤ n1 ∧ iv = .int .i64 q ∧ cn = .int .i64 (inUp p q) ∧ Keeps w3 wx) (fun _ iv _ => n1 - (intOf iv).toNat)
              case atStart => exact ⟨0, Nat.zero_le _, rfl, by simp [inUp], Kc⟩
              case round =>
                clear Kc
                obtain ⟨q, hq, rfl, rfl, Kr⟩ := hrel
                by_cases hltq : q < n1
                · obtain ⟨gb, go, rfl, c0, c1, c2⟩ := (hn1.keep Kr).sp hltq
                  obtain ⟨b', off', e', x1⟩ := (hz3.keep Kr).one hlt
                  cases e'
                  obtain ⟨ob', oo', e', x2⟩ := (ho1.keep Kr).one hlt
                  cases e'
                  have c5 : wr.cell? ⟨b, off + i, none⟩ = some (.int .i64 (Z i)) := x1
                  have c6 : wr.cell? ⟨ob, oo + i, none⟩ = some (.int .i64 (out.getD i 0)) := x2
                  clear x1 x2
                  have hgl := World.block_lt_of_cell? _ _ c0
                  have hbl := World.block_lt_of_cell? _ _ c5
                  have hol := World.block_lt_of_cell? _ _ c6
                  have hk0 : ∀ wx, Keeps wr wx → (wx.cell? ⟨gb, go + q * 3, none⟩ = some (.int .i64 (now q).f) ∧ wx.cell? ⟨gb, go + q * 3 + 1, none⟩ = some (.int .i64 (now q).t) ∧ wx.cell? ⟨gb, go + q * 3 + 2, none⟩ = some (.int .i64 (now q).e) ∧ wx.cell? ⟨ob, oo + i, none⟩ = some (.int .i64 (out.getD i 0)) ∧ wx.cell? ⟨b, off + i, none⟩ = some (.int .i64 (Z i)) ∧ Keeps wr wx) := fun wx k =>
                    ⟨(World.cell?_of_block (k.block gb hgl (fun h => h))).trans c0, (World.cell?_of_block (k.block gb hgl (fun h => h))).trans c1, (World.cell?_of_block (k.block gb hgl (fun h => h))).trans c2,
                     (World.cell?_of_block (k.block ob hol (fun h => h))).trans c6, (World.cell?_of_block (k.block b hbl (fun h => h))).trans c5, k⟩
                  have HK := Lib.hid hk0
                  have hone := HON.out i q hlt hltq
                  rw [hpp] at hone
                  have hnx := inUp_next p q
                  have hiu : 0 ≤ inUp p q ∧ inUp p q ≤ 1 := by unfold inUp; split <;> omega
                  obtain ⟨hu1, hu2⟩ := hiu
                  have HNXT := Lib.hid hnx
                  have hh1 : ∀ wx, (wx.cell? ⟨gb, go + q * 3, none⟩ = some (.int .i64 (now q).f) ∧ wx.cell? ⟨gb, go + q * 3 + 1, none⟩ = some (.int .i64 (now q).t) ∧ wx.cell? ⟨gb, go + q * 3 + 2, none⟩ = some (.int .i64 (now q).e) ∧ wx.cell? ⟨ob, oo + i, none⟩ = some (.int .i64 (out.getD i 0)) ∧ wx.cell? ⟨b, off + i, none⟩ = some (.int .i64 (Z i)) ∧ Keeps wr wx) → Calls Try.prog 11 #[.agg #[.int .i64 (now q).f, .int .i64 (now q).t, .int .i64 (now q).e], .int .i64 (out.getD i 0)] wx fun e w' => e = .returned (.bool (hasB (now q) (out.getD i 0))) ∧ (w'.cell? ⟨gb, go + q * 3, none⟩ = some (.int .i64 (now q).f) ∧ w'.cell? ⟨gb, go + q * 3 + 1, none⟩ = some (.int .i64 (now q).t) ∧ w'.cell? ⟨gb, go + q * 3 + 2, none⟩ = some (.int .i64 (now q).e) ∧ w'.cell? ⟨ob, oo + i, none⟩ = some (.int .i64 (out.getD i 0)) ∧ w'.cell? ⟨b, off + i, none⟩ = some (.int .i64 (Z i)) ∧ Keeps wr w') := fun wx hS =>
                    (has_any (now q) (out.getD i 0) wx (HRT.out q hltq)).mono (fun e w' h => ⟨h.1, HK.out _ (Keeps.trans hS.2.2.2.2.2 h.2)⟩)
                  have hh2 : ∀ wx, (wx.cell? ⟨gb, go + q * 3, none⟩ = some (.int .i64 (now q).f) ∧ wx.cell? ⟨gb, go + q * 3 + 1, none⟩ = some (.int .i64 (now q).t) ∧ wx.cell? ⟨gb, go + q * 3 + 2, none⟩ = some (.int .i64 (now q).e) ∧ wx.cell? ⟨ob, oo + i, none⟩ = some (.int .i64 (out.getD i 0)) ∧ wx.cell? ⟨b, off + i, none⟩ = some (.int .i64 (Z i)) ∧ Keeps wr wx) → Calls Try.prog 11 #[.agg #[.int .i64 (now q).f, .int .i64 (now q).t, .int .i64 (now q).e], .int .i64 (out.getD i 0 + Z i - 1)] wx fun e w' => e = .returned (.bool (hasB (now q) (out.getD i 0 + Z i - 1))) ∧ (w'.cell? ⟨gb, go + q * 3, none⟩ = some (.int .i64 (now q).f) ∧ w'.cell? ⟨gb, go + q * 3 + 1, none⟩ = some (.int .i64 (now q).t) ∧ w'.cell? ⟨gb, go + q * 3 + 2, none⟩ = some (.int .i64 (now q).e) ∧ w'.cell? ⟨ob, oo + i, none⟩ = some (.int .i64 (out.getD i 0)) ∧ w'.cell? ⟨b, off + i, none⟩ = some (.int .i64 (Z i)) ∧ Keeps wr w') := fun wx hS =>
                    (has_any (now q) (out.getD i 0 + Z i - 1) wx (HRT.out q hltq)).mono (fun e w' h => ⟨h.1, HK.out _ (Keeps.trans hS.2.2.2.2.2 h.2)⟩)
                  have HH1 := Lib.hid hh1
                  have HH2 := Lib.hid hh2
                  have HONE := Lib.hid hone
                  clear hk0 hh1 hh2 hone hnx
                  generalize hasB (now q) (out.getD i 0) = hb1 at *
                  generalize hasB (now q) (out.getD i 0 + Z i - 1) = hb2 at *
                  go_wp2_with fail
                  go_cut [103] (fun s wx => s = .bool (hb1 && hb2) ∧ Keeps w3 wx)
                  case first => as_aux_lemma =>
                    clear HS HZ HNX HON HLI HBD HRT HRL HUS HUB HFE HONE HNXT HX
                    generalize out.getD i 0 = x at *
                    generalize Z i = z at *
                    have hwr : IntKind.i64.wrap (IntKind.i64.wrap (x + z) - 1) = x + z - 1 := by
                      rw [IntWalk.i64_left, IntWalk.i64_left, IntWalk.wrap64_in (x + z) ⟨by omega, by omega⟩, IntWalk.wrap64_in (x + z - 1) ⟨by omega, by omega⟩]
                    have hh3 := HH2.out
                    rw [← hwr] at hh3
                    have HH3 := Lib.hid hh3
                    clear hh3 hwr HH2
                    cases hb1 with
                    | false =>
                      refine wp_region_noPanic ?_
                      refine wp_region_held_drew (S := (fun w' => (w'.cell? ⟨gb, go + q * 3, none⟩ = some (.int .i64 (now q).f) ∧ w'.cell? ⟨gb, go + q * 3 + 1, none⟩ = some (.int .i64 (now q).t) ∧ w'.cell? ⟨gb, go + q * 3 + 2, none⟩ = some (.int .i64 (now q).e) ∧ w'.cell? ⟨ob, oo + i, none⟩ = some (.int .i64 x) ∧ w'.cell? ⟨b, off + i, none⟩ = some (.int .i64 z) ∧ Keeps wr w'))) (by kernel_rfl) (HK.out _ ((Touch.refl _ wr).drew)) (fun hHeld => ?_)
                      refine' wpAnyH_take (i := 0) ?hi0 ?hs0 ?hf0 ?hr0 ?hQ0 ?hy0 (by assumption) ?rest0
                      case hi0 => simp only [List.getElem?_toArray, List.getElem?_cons_zero]; rfl
                      case hs0 => kernel_rfl
                      case hf0 => kernel_rfl
                      case hr0 => kernel_rfl
                      case hQ0 => exact fun _ _ _ h => h
                      case hy0 => exact Or.inl ⟨by rfl, fun w hSw => by (try dsimp only at hSw); go_simp; try with_reducible rfl⟩
                      simp only [Act.put, List.setIfInBounds_toArray, List.set_cons_zero, List.set_cons_succ]
                      refine' wpAnyH_take (i := 1) ?hi1 ?hs1 ?hf1 ?hr1 ?hQ1 ?hy1 (by assumption) ?rest1
                      case hi1 => simp only [List.getElem?_toArray, List.getElem?_cons_succ, List.getElem?_cons_zero]; rfl
                      case hs1 => kernel_rfl
                      case hf1 => kernel_rfl
                      case hr1 => kernel_rfl
                      case hQ1 => exact fun _ _ _ h => h
                      case hy1 => exact Or.inl ⟨by rfl, fun w hSw => by (try dsimp only at hSw); go_simp; try with_reducible rfl⟩
                      simp only [Act.put, List.setIfInBounds_toArray, List.set_cons_zero, List.set_cons_succ]
                      refine' wpAnyH_take (i := 2) ?hi2 ?hs2 ?hf2 ?hr2 ?hQ2 ?hy2 (by assumption) ?rest2
                      case hi2 => simp only [List.getElem?_toArray, List.getElem?_cons_succ, List.getElem?_cons_zero]; rfl
                      case hs2 => kernel_rfl
                      case hf2 => kernel_rfl
                      case hr2 => kernel_rfl
                      case hQ2 => exact fun _ _ _ h => h
                      case hy2 => exact Or.inl ⟨by rfl, fun w hSw => by (try dsimp only at hSw); go_simp; try with_reducible rfl⟩
                      simp only [Act.put, List.setIfInBounds_toArray, List.set_cons_zero, List.set_cons_succ]
                      refine' wpAnyH_take (i := 3) ?hi3 ?hs3 ?hf3 ?hr3 ?hQ3 ?hy3 (by assumption) ?rest3
                      case hi3 => simp only [List.getElem?_toArray, List.getElem?_cons_succ, List.getElem?_cons_zero]; rfl
                      case hs3 => kernel_rfl
                      case hf3 => kernel_rfl
                      case hr3 => kernel_rfl
                      case hQ3 => exact fun _ _ _ h => h
                      case hy3 => exact Or.inl ⟨by rfl, fun w hSw => by (try dsimp only at hSw); go_simp; try with_reducible rfl⟩
                      simp only [Act.put, List.setIfInBounds_toArray, List.set_cons_zero, List.set_cons_succ]
                      refine' wpAnyH_take (i := 4) ?hi4 ?hs4 ?hf4 ?hr4 ?hQ4 ?hy4 (by assumption) ?rest4
                      case hi4 => simp only [List.getElem?_toArray, List.getElem?_cons_succ, List.getElem?_cons_zero]; rfl
                      case hs4 => kernel_rfl
                      case hf4 => kernel_rfl
                      case hr4 => kernel_rfl
                      case hQ4 => exact fun _ _ _ h => h
                      case hy4 => exact Or.inl ⟨by rfl, fun w hSw => by (try dsimp only at hSw); go_simp; try with_reducible rfl⟩
                      simp only [Act.put, List.setIfInBounds_toArray, List.set_cons_zero, List.set_cons_succ]
                      refine' wpAnyH_take (i := 5) ?hi5 ?hs5 ?hf5 ?hr5 ?hQ5 ?hy5 (by assumption) ?rest5
                      case hi5 => simp only [List.getElem?_toArray, List.getElem?_cons_succ, List.getElem?_cons_zero]; rfl
                      case hs5 => kernel_rfl
                      case hf5 => kernel_rfl
                      case hr5 => kernel_rfl
                      case hQ5 => exact fun _ _ _ h => h
                      case hy5 => exact Or.inl ⟨by rfl, fun w hSw => by (try dsimp only at hSw); go_simp; try with_reducible rfl⟩
                      simp only [Act.put, List.setIfInBounds_toArray, List.set_cons_zero, List.set_cons_succ]
                      refine' wpAnyH_take (i := 6) ?hi6 ?hs6 ?hf6 ?hr6 ?hQ6 ?hy6 (by assumption) ?rest6
                      case hi6 => simp only [List.getElem?_toArray, List.getElem?_cons_succ, List.getElem?_cons_zero]; rfl
                      case hs6 => kernel_rfl
                      case hf6 => kernel_rfl
                      case hr6 => kernel_rfl
                      case hQ6 => exact fun _ _ _ h => h
                      case hy6 => exact Or.inl ⟨by rfl, fun w hSw => by (try dsimp only at hSw); go_simp; try with_reducible rfl⟩
                      simp only [Act.put, List.setIfInBounds_toArray, List.set_cons_zero, List.set_cons_succ]
                      refine' wpAnyH_take (i := 7) ?hi7 ?hs7 ?hf7 ?hr7 ?hQ7 ?hy7 (by assumption) ?rest7
                      case hi7 => simp only [List.getElem?_toArray, List.getElem?_cons_succ, List.getElem?_cons_zero]; rfl
                      case hs7 => kernel_rfl
                      case hf7 => kernel_rfl
                      case hr7 => kernel_rfl
                      case hQ7 => exact fun _ _ _ h => h
                      case hy7 => exact Or.inl ⟨by rfl, fun w hSw => by (try dsimp only at hSw); go_simp; try with_reducible rfl⟩
                      simp only [Act.put, List.setIfInBounds_toArray, List.set_cons_zero, List.set_cons_succ]
                      refine wpAnyH_ready (rs := [8]) (by kernel_rfl) (by simp) ?_
                      refine AllReadyH.cons rfl (fun K hK => ?_) AllReadyH.nil
                      go_simp
                      (with_reducible refine (HH1.out _ (by assumption)).mono ?_; rintro e w' ⟨rfl, hS⟩)
                      go_wp2_with fail
                      refine hK.out _ _ hS (fun hHeld2 => ?_)
                      clear hK K hHeld
                      refine' wpAnyH_take (i := 9) ?hi9 ?hs9 ?hf9 ?hr9 ?hQ9 ?hy9 (by assumption) ?rest9
                      case hi9 => simp only [List.getElem?_toArray, List.getElem?_cons_succ, List.getElem?_cons_zero]; rfl
                      case hs9 => kernel_rfl
                      case hf9 => kernel_rfl
                      case hr9 => kernel_rfl
                      case hQ9 => exact fun _ _ _ h => h
                      case hy9 => exact Or.inl ⟨by rfl, fun w hSw => by (try dsimp only at hSw); go_simp; try with_reducible rfl⟩
                      simp only [Act.put, List.setIfInBounds_toArray, List.set_cons_zero, List.set_cons_succ]
                      refine' wpAnyH_take (i := 10) ?hi10 ?hs10 ?hf10 ?hr10 ?hQ10 ?hy10 (by assumption) ?rest10
                      case hi10 => simp only [List.getElem?_toArray, List.getElem?_cons_succ, List.getElem?_cons_zero]; rfl
                      case hs10 => kernel_rfl
                      case hf10 => kernel_rfl
                      case hr10 => kernel_rfl
                      case hQ10 => exact fun _ _ _ h => h
                      case hy10 => exact Or.inr ⟨by kernel_rfl, rfl⟩
                      simp only [Act.put, List.setIfInBounds_toArray, List.set_cons_zero, List.set_cons_succ]
                      refine' wpAnyH_take (i := 11) ?hi11 ?hs11 ?hf11 ?hr11 ?hQ11 ?hy11 (by assumption) ?rest11
                      case hi11 => simp only [List.getElem?_toArray, List.getElem?_cons_succ, List.getElem?_cons_zero]; rfl
                      case hs11 => kernel_rfl
                      case hf11 => kernel_rfl
                      case hr11 => kernel_rfl
                      case hQ11 => exact fun _ _ _ h => h
                      case hy11 => exact Or.inr ⟨by kernel_rfl, rfl⟩
                      simp only [Act.put, List.setIfInBounds_toArray, List.set_cons_zero, List.set_cons_succ]
                      refine' wpAnyH_take (i := 12) ?hi12 ?hs12 ?hf12 ?hr12 ?hQ12 ?hy12 (by assumption) ?rest12
                      case hi12 => simp only [List.getElem?_toArray, List.getElem?_cons_succ, List.getElem?_cons_zero]; rfl
                      case hs12 => kernel_rfl
                      case hf12 => kernel_rfl
                      case hr12 => kernel_rfl
                      case hQ12 => exact fun _ _ _ h => h
                      case hy12 => exact Or.inr ⟨by kernel_rfl, rfl⟩
                      simp only [Act.put, List.setIfInBounds_toArray, List.set_cons_zero, List.set_cons_succ]
                      refine' wpAnyH_take (i := 13) ?hi13 ?hs13 ?hf13 ?hr13 ?hQ13 ?hy13 (by assumption) ?rest13
                      case hi13 => simp only [List.getElem?_toArray, List.getElem?_cons_succ, List.getElem?_cons_zero]; rfl
                      case hs13 => kernel_rfl
                      case hf13 => kernel_rfl
                      case hr13 => kernel_rfl
                      case hQ13 => exact fun _ _ _ h => h
                      case hy13 => exact Or.inr ⟨by kernel_rfl, rfl⟩
                      simp only [Act.put, List.setIfInBounds_toArray, List.set_cons_zero, List.set_cons_succ]
                      refine' wpAnyH_take (i := 14) ?hi14 ?hs14 ?hf14 ?hr14 ?hQ14 ?hy14 (by assumption) ?rest14
                      case hi14 => simp only [List.getElem?_toArray, List.getElem?_cons_succ, List.getElem?_cons_zero]; rfl
                      case hs14 => kernel_rfl
                      case hf14 => kernel_rfl
                      case hr14 => kernel_rfl
                      case hQ14 => exact fun _ _ _ h => h
                      case hy14 => exact Or.inr ⟨by kernel_rfl, rfl⟩
                      simp only [Act.put, List.setIfInBounds_toArray, List.set_cons_zero, List.set_cons_succ]
                      refine' wpAnyH_take (i := 15) ?hi15 ?hs15 ?hf15 ?hr15 ?hQ15 ?hy15 (by assumption) ?rest15
                      case hi15 => simp only [List.getElem?_toArray, List.getElem?_cons_succ, List.getElem?_cons_zero]; rfl
                      case hs15 => kernel_rfl
                      case hf15 => kernel_rfl
                      case hr15 => kernel_rfl
                      case hQ15 => exact fun _ _ _ h => h
                      case hy15 => exact Or.inr ⟨by kernel_rfl, rfl⟩
                      simp only [Act.put, List.setIfInBounds_toArray, List.set_cons_zero, List.set_cons_succ]
                      refine' wpAnyH_take (i := 16) ?hi16 ?hs16 ?hf16 ?hr16 ?hQ16 ?hy16 (by assumption) ?rest16
                      case hi16 => simp only [List.getElem?_toArray, List.getElem?_cons_succ, List.getElem?_cons_zero]; rfl
                      case hs16 => kernel_rfl
                      case hf16 => kernel_rfl
                      case hr16 => kernel_rfl
                      case hQ16 => exact fun _ _ _ h => h
                      case hy16 => exact Or.inr ⟨by kernel_rfl, rfl⟩
                      simp only [Act.put, List.setIfInBounds_toArray, List.set_cons_zero, List.set_cons_succ]
                      refine' wpAnyH_take (i := 17) ?hi17 ?hs17 ?hf17 ?hr17 ?hQ17 ?hy17 (by assumption) ?rest17
                      case hi17 => simp only [List.getElem?_toArray, List.getElem?_cons_succ, List.getElem?_cons_zero]; rfl
                      case hs17 => kernel_rfl
                      case hf17 => kernel_rfl
                      case hr17 => kernel_rfl
                      case hQ17 => exact fun _ _ _ h => h
                      case hy17 => exact Or.inr ⟨by kernel_rfl, rfl⟩
                      simp only [Act.put, List.setIfInBounds_toArray, List.set_cons_zero, List.set_cons_succ]
                      refine' wpAnyH_take (i := 18) ?hi18 ?hs18 ?hf18 ?hr18 ?hQ18 ?hy18 (by assumption) ?rest18
                      case hi18 => simp only [List.getElem?_toArray, List.getElem?_cons_succ, List.getElem?_cons_zero]; rfl
                      case hs18 => kernel_rfl
                      case hf18 => kernel_rfl
                      case hr18 => kernel_rfl
                      case hQ18 => exact fun _ _ _ h => h
                      case hy18 => exact Or.inr ⟨by kernel_rfl, rfl⟩
                      simp only [Act.put, List.setIfInBounds_toArray, List.set_cons_zero, List.set_cons_succ]
                      refine' wpAnyH_take (i := 19) ?hi19 ?hs19 ?hf19 ?hr19 ?hQ19 ?hy19 (by assumption) ?rest19
                      case hi19 => simp only [List.getElem?_toArray, List.getElem?_cons_succ, List.getElem?_cons_zero]; rfl
                      case hs19 => kernel_rfl
                      case hf19 => kernel_rfl
                      case hr19 => kernel_rfl
                      case hQ19 => exact fun _ _ _ h => h
                      case hy19 => exact Or.inr ⟨by kernel_rfl, rfl⟩
                      simp only [Act.put, List.setIfInBounds_toArray, List.set_cons_zero, List.set_cons_succ]
                      refine' wpAnyH_take (i := 20) ?hi20 ?hs20 ?hf20 ?hr20 ?hQ20 ?hy20 (by assumption) ?rest20
                      case hi20 => simp only [List.getElem?_toArray, List.getElem?_cons_succ, List.getElem?_cons_zero]; rfl
                      case hs20 => kernel_rfl
                      case hf20 => kernel_rfl
                      case hr20 => kernel_rfl
                      case hQ20 => exact fun _ _ _ h => h
                      case hy20 => exact Or.inr ⟨by kernel_rfl, rfl⟩
                      simp only [Act.put, List.setIfInBounds_toArray, List.set_cons_zero, List.set_cons_succ]
                      refine' wpAnyH_take (i := 21) ?hi21 ?hs21 ?hf21 ?hr21 ?hQ21 ?hy21 (by assumption) ?rest21
                      case hi21 => simp only [List.getElem?_toArray, List.getElem?_cons_succ, List.getElem?_cons_zero]; rfl
                      case hs21 => kernel_rfl
                      case hf21 => kernel_rfl
                      case hr21 => kernel_rfl
                      case hQ21 => exact fun _ _ _ h => h
                      case hy21 => exact Or.inr ⟨by kernel_rfl, rfl⟩
                      simp only [Act.put, List.setIfInBounds_toArray, List.set_cons_zero, List.set_cons_succ]
                      refine' wpAnyH_take (i := 22) ?hi22 ?hs22 ?hf22 ?hr22 ?hQ22 ?hy22 (by assumption) ?rest22
                      case hi22 => simp only [List.getElem?_toArray, List.getElem?_cons_succ, List.getElem?_cons_zero]; rfl
                      case hs22 => kernel_rfl
                      case hf22 => kernel_rfl
                      case hr22 => kernel_rfl
                      case hQ22 => exact fun _ _ _ h => h
                      case hy22 => exact Or.inr ⟨by kernel_rfl, rfl⟩
                      simp only [Act.put, List.setIfInBounds_toArray, List.set_cons_zero, List.set_cons_succ]
                      refine' wpAnyH_take (i := 23) ?hi23 ?hs23 ?hf23 ?hr23 ?hQ23 ?hy23 (by assumption) ?rest23
                      case hi23 => simp only [List.getElem?_toArray, List.getElem?_cons_succ, List.getElem?_cons_zero]; rfl
                      case hs23 => kernel_rfl
                      case hf23 => kernel_rfl
                      case hr23 => kernel_rfl
                      case hQ23 => exact fun _ _ _ h => h
                      case hy23 => exact Or.inr ⟨by kernel_rfl, rfl⟩
                      simp only [Act.put, List.setIfInBounds_toArray, List.set_cons_zero, List.set_cons_succ]
                      refine' wpAnyH_take (i := 24) ?hi24 ?hs24 ?hf24 ?hr24 ?hQ24 ?hy24 (by assumption) ?rest24
                      case hi24 => simp only [List.getElem?_toArray, List.getElem?_cons_succ, List.getElem?_cons_zero]; rfl
                      case hs24 => kernel_rfl
                      case hf24 => kernel_rfl
                      case hr24 => kernel_rfl
                      case hQ24 => exact fun _ _ _ h => h
                      case hy24 => exact Or.inr ⟨by kernel_rfl, rfl⟩
                      simp only [Act.put, List.setIfInBounds_toArray, List.set_cons_zero, List.set_cons_succ]
                      refine' wpAnyH_take (i := 25) ?hi25 ?hs25 ?hf25 ?hr25 ?hQ25 ?hy25 (by assumption) ?rest25
                      case hi25 => simp only [List.getElem?_toArray, List.getElem?_cons_succ, List.getElem?_cons_zero]; rfl
                      case hs25 => kernel_rfl
                      case hf25 => kernel_rfl
                      case hr25 => kernel_rfl
                      case hQ25 => exact fun _ _ _ h => h
                      case hy25 => exact Or.inl ⟨by rfl, fun w hSw => by (try dsimp only at hSw); go_simp; try with_reducible rfl⟩
                      simp only [Act.put, List.setIfInBounds_toArray, List.set_cons_zero, List.set_cons_succ]
                      refine wpAnyH_done (by kernel_rfl) ?_ _
                      refine NoPanic.normal ?_
                      go_wp2_with fail
                      go_meet
                      exact ⟨rfl, Keeps.trans Kr hHeld2.2.2.2.2.2⟩
                    | true =>
                      (first | (go_region_held3 (fun w' => (w'.cell? ⟨gb, go + q * 3, none⟩ = some (.int .i64 (now q).f) ∧ w'.cell? ⟨gb, go + q * 3 + 1, none⟩ = some (.int .i64 (now q).t) ∧ w'.cell? ⟨gb, go + q * 3 + 2, none⟩ = some (.int .i64 (now q).e) ∧ w'.cell? ⟨ob, oo + i, none⟩ = some (.int .i64 x) ∧ w'.cell? ⟨b, off + i, none⟩ = some (.int .i64 z) ∧ Keeps wr w'))
                           (first | assumption | exact HK.out _ ((Touch.refl _ wr).drew) | go_keep)
                           (first | (with_reducible refine (HH1.out _ (by assumption)).mono ?_; rintro e w' ⟨rfl, hS⟩) | (with_reducible refine (HH3.out _ (by assumption)).mono ?_; rintro e w' ⟨rfl, hS⟩))) | fail)
                      all_goals (go_wp2_with fail; go_meet; exact ⟨rfl, Keeps.trans Kr (by assumption : _ ∧ _ ∧ _ ∧ _ ∧ _ ∧ _).2.2.2.2.2⟩)
                  case rest => as_aux_lemma =>
                    obtain ⟨rfl, Kc⟩ := hcut
                    rw [HONE.out]
                    by_cases hqp : q = p
                    · have hdp : decide (q = p) = true := decide_eq_true hqp
                      have HQ := Lib.hid hqp
                      rw [hdp]
                      clear hdp hqp
                      go_wp2_with fail
                      go_roundw
                      case rel => exact ⟨q + 1, by omega, by go_num, by rw [HNXT.out, if_pos HQ.out], Kc⟩
                      case measure => simp [intOf]; omega
                    · have hdp : decide (q = p) = false := decide_eq_false hqp
                      have HQ := Lib.hid hqp
                      rw [hdp]
                      clear hdp hqp
                      go_wp2_with fail
                      go_roundw
                      case rel => exact ⟨q + 1, by omega, by go_num, by rw [HNXT.out, if_neg HQ.out], Kc⟩
                      case measure => simp [intOf]; omega
                · have hqn : q = n1 := by omega
                  subst hqn
                  have hin : inUp p q = 1 := by simp [inUp, p1]
                  rw [hin]
                  go_wp2_with fail
                  go_roundw
                  case rel => exact ⟨i + 1, by omega, by go_num, by rw [HX.out], Kr⟩
                  case measure => simp [intOf]; omega
          · have him : i = m := by omega
            subst him
            obtain ⟨s1, s2⟩ := HS.out i (Nat.le_refl _)
            clear hlt hi
            go_wp2_with fail
            go_loopw [8, 112] (fun wd iv wx => ∃ q : Nat, q ≤ n1 ∧ iv = .int .i64 q ∧ wd = .int .i64 (sumZ Z i - used now q) ∧ Keeps w3 wx) (fun _ iv _ => n1 - (intOf iv).toNat)
            case atStart => exact ⟨0, Nat.zero_le _, rfl, congrArg _ (by simp [used]), Kr⟩
            case round =>
              clear Kr
              obtain ⟨q, hq, rfl, rfl, Kr⟩ := hrel
              by_cases hlt : q < n1
              · obtain ⟨gb, go, rfl, c0, c1, c2⟩ := (hn1.keep Kr).sp hlt
                obtain ⟨lb, lo, rfl, d0, d1, d2⟩ := (hr3.keep Kr).sp hlt
                obtain ⟨fe1, fe2⟩ := HFE.out q
                obtain ⟨u1, u2⟩ := HUB.out q (by omega)
                obtain ⟨u3, u4⟩ := HUB.out (q + 1) (by omega)
                have hu5 : used now (q + 1) = used now q + ((now q).t - (now q).f) := rfl
                have hbd := HBD.out q hlt
                have hud : ∀ wx, Calls Try.prog 12 #[.agg #[.int .i64 (L q).f, .int .i64 (now q).t, .int .i64 (L q).e]] wx fun e w' => e = .returned (.int .i64 ((now q).t - (L q).f)) ∧ Keeps wx w' := fun wx => by
                  have h := used_any (now q) wx (HRT.out q hlt)
                  unfold agg at h
                  rw [fe1, fe2] at h
                  exact h
                have HUD := Lib.hid hud
                clear hud
                rw [hu5, fe1] at u3 u4
                have HF1 := Lib.hid fe1
                have HU5 := Lib.hid hu5
                clear hu5
                go_wp2_with fail
                refine (HUD.out _).mono ?_
                rintro e w9 ⟨rfl, k9⟩
                have K9 := Keeps.trans Kr k9
                obtain ⟨gb', go', eg, c0', c1', c2'⟩ := (hn1.keep K9).sp hlt
                cases eg
                obtain ⟨lb', lo', el, d0', d1', d2'⟩ := (hr3.keep K9).sp hlt
                cases el
                rw [fe1] at c0'
                rw [fe2] at c2'
                clear c0 c1 c2 d0 d1 d2 k9 Kr
                generalize hwr : w9 = wr at *
                clear hwr
                have hgl := World.block_lt_of_cell? _ _ c0'
                have hll := World.block_lt_of_cell? _ _ d0'
                have hk0 : ∀ wx, Keeps wr wx → (wx.cell? ⟨gb, go + q * 3, none⟩ = some (.int .i64 (L q).f) ∧ wx.cell? ⟨gb, go + q * 3 + 1, none⟩ = some (.int .i64 (now q).t) ∧ wx.cell? ⟨gb, go + q * 3 + 2, none⟩ = some (.int .i64 (L q).e) ∧ wx.cell? ⟨lb, lo + q * 3, none⟩ = some (.int .i64 (L q).f) ∧ wx.cell? ⟨lb, lo + q * 3 + 1, none⟩ = some (.int .i64 (L q).t) ∧ wx.cell? ⟨lb, lo + q * 3 + 2, none⟩ = some (.int .i64 (L q).e) ∧ Keeps wr wx) := fun wx k =>
                  ⟨(World.cell?_of_block (k.block gb hgl (fun h => h))).trans c0', (World.cell?_of_block (k.block gb hgl (fun h => h))).trans c1', (World.cell?_of_block (k.block gb hgl (fun h => h))).trans c2',
                   (World.cell?_of_block (k.block lb hll (fun h => h))).trans d0', (World.cell?_of_block (k.block lb hll (fun h => h))).trans d1', (World.cell?_of_block (k.block lb hll (fun h => h))).trans d2', k⟩
                have HK := Lib.hid hk0
                have he1 : ∀ wx, (wx.cell? ⟨gb, go + q * 3, none⟩ = some (.int .i64 (L q).f) ∧ wx.cell? ⟨gb, go + q * 3 + 1, none⟩ = some (.int .i64 (now q).t) ∧ wx.cell? ⟨gb, go + q * 3 + 2, none⟩ = some (.int .i64 (L q).e) ∧ wx.cell? ⟨lb, lo + q * 3, none⟩ = some (.int .i64 (L q).f) ∧ wx.cell? ⟨lb, lo + q * 3 + 1, none⟩ = some (.int .i64 (L q).t) ∧ wx.cell? ⟨lb, lo + q * 3 + 2, none⟩ = some (.int .i64 (L q).e) ∧ Keeps wr wx) → Calls Try.prog 13 #[.agg #[.int .i64 (L q).f, .int .i64 (now q).t, .int .i64 (L q).e]] wx fun e w' => e = .returned (.agg #[.int .i64 (L q).f, .int .i64 (L q).f, .int .i64 (L q).e]) ∧ (w'.cell? ⟨gb, go + q * 3, none⟩ = some (.int .i64 (L q).f) ∧ w'.cell? ⟨gb, go + q * 3 + 1, none⟩ = some (.int .i64 (now q).t) ∧ w'.cell? ⟨gb, go + q * 3 + 2, none⟩ = some (.int .i64 (L q).e) ∧ w'.cell? ⟨lb, lo + q * 3, none⟩ = some (.int .i64 (L q).f) ∧ w'.cell? ⟨lb, lo + q * 3 + 1, none⟩ = some (.int .i64 (L q).t) ∧ w'.cell? ⟨lb, lo + q * 3 + 2, none⟩ = some (.int .i64 (L q).e) ∧ Keeps wr w') := fun wx hS => by
                  have h := empty_any (now q) wx (HRT.out q hlt)
                  unfold agg emp at h
                  rw [fe1, fe2] at h
                  exact h.mono (fun e w' h => ⟨h.1, HK.out _ (Keeps.trans hS.2.2.2.2.2.2 h.2)⟩)
                have he2 : ∀ wx, (wx.cell? ⟨gb, go + q * 3, none⟩ = some (.int .i64 (L q).f) ∧ wx.cell? ⟨gb, go + q * 3 + 1, none⟩ = some (.int .i64 (now q).t) ∧ wx.cell? ⟨gb, go + q * 3 + 2, none⟩ = some (.int .i64 (L q).e) ∧ wx.cell? ⟨lb, lo + q * 3, none⟩ = some (.int .i64 (L q).f) ∧ wx.cell? ⟨lb, lo + q * 3 + 1, none⟩ = some (.int .i64 (L q).t) ∧ wx.cell? ⟨lb, lo + q * 3 + 2, none⟩ = some (.int .i64 (L q).e) ∧ Keeps wr wx) → Calls Try.prog 13 #[.agg #[.int .i64 (L q).f, .int .i64 (L q).t, .int .i64 (L q).e]] wx fun e w' => e = .returned (.agg #[.int .i64 (L q).f, .int .i64 (L q).f, .int .i64 (L q).e]) ∧ (w'.cell? ⟨gb, go + q * 3, none⟩ = some (.int .i64 (L q).f) ∧ w'.cell? ⟨gb, go + q * 3 + 1, none⟩ = some (.int .i64 (now q).t) ∧ w'.cell? ⟨gb, go + q * 3 + 2, none⟩ = some (.int .i64 (L q).e) ∧ w'.cell? ⟨lb, lo + q * 3, none⟩ = some (.int .i64 (L q).f) ∧ w'.cell? ⟨lb, lo + q * 3 + 1, none⟩ = some (.int .i64 (L q).t) ∧ w'.cell? ⟨lb, lo + q * 3 + 2, none⟩ = some (.int .i64 (L q).e) ∧ Keeps wr w') := fun wx hS => by
                  have h := empty_any (L q) wx (HRL.out q hlt)
                  unfold agg emp at h
                  exact h.mono (fun e w' h => ⟨h.1, HK.out _ (Keeps.trans hS.2.2.2.2.2.2 h.2)⟩)
                have HE1 := Lib.hid he1
                have HE2 := Lib.hid he2
                clear hk0 he1 he2
                go_wp2_with fail
                go_region_held3 (fun w' => (w'.cell? ⟨gb, go + q * 3, none⟩ = some (.int .i64 (L q).f) ∧ w'.cell? ⟨gb, go + q * 3 + 1, none⟩ = some (.int .i64 (now q).t) ∧ w'.cell? ⟨gb, go + q * 3 + 2, none⟩ = some (.int .i64 (L q).e) ∧ w'.cell? ⟨lb, lo + q * 3, none⟩ = some (.int .i64 (L q).f) ∧ w'.cell? ⟨lb, lo + q * 3 + 1, none⟩ = some (.int .i64 (L q).t) ∧ w'.cell? ⟨lb, lo + q * 3 + 2, none⟩ = some (.int .i64 (L q).e) ∧ Keeps wr w'))
                  (first | assumption | exact HK.out _ ((Touch.refl _ wr).drew) | go_keep)
                  (first | (with_reducible refine (HE1.out _ (by assumption)).mono ?_; rintro e w' ⟨rfl, hS⟩) | (with_reducible refine (HE2.out _ (by assumption)).mono ?_; rintro e w' ⟨rfl, hS⟩))
                all_goals (
                  go_wp2_with fail
                  go_roundw
                  case rel => exact ⟨q + 1, by omega, by go_num, (by have := HF1.out; rw [HU5.out]; congr 1; omega), by have hS := (by assumption : _ ∧ _ ∧ _ ∧ _ ∧ _ ∧ _ ∧ _); exact Keeps.trans K9 hS.2.2.2.2.2.2⟩
                  case measure => simp [intOf]; omega)
              · have hqn : q = n1 := by omega
                subst hqn
                rw [HUS.out]
                go_wp2_with fail
                go_ret
                exact ⟨by simp, Keeps.trans K3 Kr⟩
    · have g1 : decide ((20 : Int) < (n : Int)) = false := by simp; omega
      have g2 : decide ((100 : Int) < (m : Int)) = true := by simp; omega
      go_enter Try.func4, Try.ntmps4
      go_wp2_with fail
      refine (awake_any _).mono ?_
      rintro e w1 ⟨rfl, k1⟩
      go_wp2_with fail
      refine (awake_any _).mono ?_
      rintro e w2 ⟨rfl, k2⟩
      go_wp2_with fail
      go_ret
      exact ⟨rfl, Keeps.trans k1 k2⟩
  · have g1 : decide ((20 : Int) < (n : Int)) = true := by simp; omega
    go_enter Try.func4, Try.ntmps4
    go_wp2_with fail
    refine (awake_any _).mono ?_
    rintro e w1 ⟨rfl, k1⟩
    go_wp2_with fail
    refine (awake_any _).mono ?_
    rintro e w2 ⟨rfl, k2⟩
    go_wp2_with fail
    go_ret
    exact ⟨rfl, Keeps.trans k1 k2⟩

end Go.Proofs.Ytaajcbklknjigaa
