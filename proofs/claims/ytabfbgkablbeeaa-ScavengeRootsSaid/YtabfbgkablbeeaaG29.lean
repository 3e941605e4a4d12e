/- Layer 15, scavenge: fresh. -/
import Derived.Test.YtabfbgkablbeeaaG26
set_option linter.all false

namespace Go.Proofs.Ytabfbgkablbeeaa
open Go.RowKit

theorem frF_append (f : Nat → Int) : ∀ (l1 l2 : List Int), frF f (l1 ++ l2) = frF (frF f l1) l2
  | [], _ => rfl
  | a :: l1, l2 => frF_append _ l1 l2
section
variable {n m : Nat} {C : Nat → Cl} {f : Nat → Int} {L : Nat → Sp} {G : Nat → List Int}
variable {w : World} {ba bw bt : Nat} {A : Option Addr} {cap : Nat} {rb : Nat} {y : Nat → Sp} {thr : Int} {tt od : Sp} {oa aa : Option Addr} {no oc na ac : Nat}
theorem HW.fresh1 (H : HW n m C f L G) {k : Nat} (hk : k < (G 1 ++ G 2).length) :
    atT n (frF f ((G 1 ++ G 2).take k)) m C ((G 1 ++ G 2).getD k 0) = (⟨oH n m C (frF f ((G 1 ++ G 2).take k)) ((G 1 ++ G 2).getD k 0), oR n m C f ((G 1 ++ G 2).getD k 0), (atT n f m C ((G 1 ++ G 2).getD k 0)).1.data, oK n m C f ((G 1 ++ G 2).getD k 0)⟩, 0) ∧
    (oH n m C (frF f ((G 1 ++ G 2).take k)) ((G 1 ++ G 2).getD k 0)).ok ∧ (oH n m C (frF f ((G 1 ++ G 2).take k)) ((G 1 ++ G 2).getD k 0)).cls ≠ 0 ∧
    frF f ((G 1 ++ G 2).take (k + 1)) = putF (frF f ((G 1 ++ G 2).take k)) ((G 1 ++ G 2).getD k 0).toNat (hdW (fw0 (oH n m C (frF f ((G 1 ++ G 2).take k)) ((G 1 ++ G 2).getD k 0)))) := by
  have hx : (G 1 ++ G 2)[k]? = some ((G 1 ++ G 2).getD k 0) := by rw [List.getD_eq_getElem?_getD, List.getElem?_eq_getElem hk]; rfl
  have hin : inG G ((G 1 ++ G 2).getD k 0) := HW.inG_of (.inl (List.mem_of_getElem? hx))
  obtain ⟨h1, h2, h3⟩ := H.fresh ((G 1 ++ G 2).take k) (fun a ha => HW.inG_of (.inl (List.mem_of_mem_take ha)))
  have e1 := h1 _ hin
  have e2 := h3.head hin
  obtain ⟨j, hj, hm⟩ := hin
  have h4 := h3.obj hj hm
  refine ⟨?_, h4.2.2.1, h4.2.1, ?_⟩
  · have e3 : oH n m C (frF f ((G 1 ++ G 2).take k)) ((G 1 ++ G 2).getD k 0) = (atT n (frF f ((G 1 ++ G 2).take k)) m C ((G 1 ++ G 2).getD k 0)).1.hd := rfl
    rw [e3, e1]
  · rw [List.take_succ, hx, Option.toList_some, frF_append]
    show putF _ _ (hdW (fw0 (rawH _))) = _
    rw [e2]
set_option maxRecDepth 100000 in
set_option maxHeartbeats 2000000 in
theorem fresh_any (H : HW n m C f L G) (h : Rn w ba bw n f bt A m cap C rb y thr tt od (.slice oa no oc) (.slice aa na ac)) (hm : 0 < m) (hr : Rd w aa na (intF .i64 fun j => (G 0 ++ (G 1 ++ G 2)).getD j 0)) (hno : no = (G 0).length) (hna : na = (G 0 ++ (G 1 ++ G 2)).length)
    (hac : na ≤ ac) (hac2 : ac ≤ 9223372036854775807) (haw : ∀ b off, aa = some ⟨b, off, none⟩ → b ≠ rb ∧ b ≠ bw) (haa : (aa = none ∧ ac = 0) ∨ ∃ g, aa = some ⟨g, 0, none⟩) :
    Calls Try.prog 24 #[.pointer (some ⟨rb, 0, none⟩)] w fun e w' => e = .returned (.tuple #[]) ∧ Rn w' ba bw n (frF f (G 1 ++ G 2)) bt A m cap C rb y thr tt od (.slice oa no oc) (.slice aa na ac) ∧ Touch (fun k => k = rb ∨ k = bw) w w' := by
  obtain ⟨q, hq⟩ : ∃ q, (G 1 ++ G 2).length = q := ⟨_, rfl⟩
  have hnq : na = no + q := by rw [hna, hno, List.length_append, hq]
  have HX0 : ∀ k, k < q → (G 0 ++ (G 1 ++ G 2)).getD (no + k) 0 = (G 1 ++ G 2).getD k 0 := fun k hk => by
    rw [List.getD_eq_getElem?_getD, List.getElem?_append_right (by omega), ← List.getD_eq_getElem?_getD, hno, Nat.add_sub_cancel_left]
  have hF := fun k (hk : k < q) => H.fresh1 (k := k) (by omega)
  obtain ⟨SK, hSK⟩ : ∃ SK : Nat → Nat → Int, SK = fun k => frF f ((G 1 ++ G 2).take k) := ⟨_, rfl⟩
  obtain ⟨X, hX⟩ : ∃ X : Nat → Int, X = fun k => (G 1 ++ G 2).getD k 0 := ⟨_, rfl⟩
  obtain ⟨Hk, hHk⟩ : ∃ Hk : Nat → Hd, Hk = fun k => oH n m C (SK k) (X k) := ⟨_, rfl⟩
  have HHd := Lib.hid (show ∀ k, k < q → ∀ w', St w' ba bw n (SK k) bt A m cap C → Calls Try.prog 41 #[.agg #[.pointer (some ⟨ba, 0, none⟩), .pointer (some ⟨bt, 0, none⟩)], .int .i64 (X k)] w' fun e w2 => e = .returned (.tuple #[.agg #[.int .i64 (Hk k).cls, .int .i64 (Hk k).age, .int .i64 (Hk k).fwd, .bool (Hk k).mark, .bool (Hk k).fin, .bool (Hk k).done], .int .i64 0]) ∧ Keeps w' w2 from fun k hk w' hw => by
    have := ohead_any ba bw n (SK k) bt A m cap C w' hw (X k)
    obtain ⟨e1, e2, e3, e4⟩ := hF k hk
    subst hHk hSK hX
    rw [objP_same (by rw [e1]; exact fun q => e3 q.2), e1] at this
    exact this)
  have HSH := Lib.hid (show ∀ k, k < q → ∀ w', St w' ba bw n (SK k) bt A m cap C → Calls Try.prog 42 #[.agg #[.pointer (some ⟨ba, 0, none⟩), .pointer (some ⟨bt, 0, none⟩)], .int .i64 (X k), .agg #[.int .i64 (Hk k).cls, .int .i64 (Hk k).age, .int .i64 0, .bool (Hk k).mark, .bool (Hk k).fin, .bool (Hk k).done]] w' fun e w2 => e = .returned (.int .i64 0) ∧ St w2 ba bw n (SK (k + 1)) bt A m cap C ∧ Only bw w' w2 from fun k hk w' hw => by
    obtain ⟨e1, e2, e3, e4⟩ := hF k hk
    subst hHk hSK hX
    dsimp only
    rw [e4]
    exact sethead_yes ba bw n _ bt A m cap C w' hw _ (fw0 _) (by rw [objP_same (by rw [e1]; exact fun q => e3 q.2), e1]) (fw0_ok e2) (by rw [objP_same (by rw [e1]; exact fun q => e3 q.2), e1]; rfl))
  have HX := Lib.hid (show ∀ k, k < q → (G 0 ++ (G 1 ++ G 2)).getD (no + k) 0 = X k from by subst hX; exact HX0)
  have hS0 : SK 0 = f := by subst hSK; rfl
  have hSq : SK q = frF f (G 1 ++ G 2) := by subst hSK; dsimp only; rw [← hq, List.take_length]
  have R0 := Lib.hid (show Rn w ba bw n (SK 0) bt A m cap C rb y thr tt od (.slice oa no oc) (.slice aa na ac) from by rw [hS0]; exact h)
  rw [← hSq]
  have HRd := Lib.hid hr
  have HAw := Lib.hid haw
  have HNe := Lib.hid h.ne
  have n1 := h.ne.2.1
  have c22 : w.cell? ⟨rb, 22, none⟩ = some (.slice oa no oc) := h.blk.c 22 _ rfl
  have c23 : w.cell? ⟨rb, 23, none⟩ = some (.slice aa na ac) := h.blk.c 23 _ rfl
  clear hX hHk hSK hF HX0 hS0 hSq hq hna hno H h hr haw
  have i1 : (0 : Int) ≤ no := by omega
  have i2 : (no : Int) ≤ na := by omega
  have i3 : (na : Int) ≤ ac := by omega
  have i4 : (no : Int) ≤ ac := by omega
  by_cases hcn : ac = no
  · have hq0 : q = 0 := by omega
    have hnn : na = no := by omega
    subst hcn
    subst hq0
    subst hnn
    clear hnq haa
    go_enter Try.func24, Try.ntmps24
    go_wp2_with fail
    go_quiet (fail)
    go_wp2_with fail
    go_loopw [17] (fun i wr => i = .int .i64 0 ∧ Rn wr ba bw n (SK 0) bt A m cap C rb y thr tt od (.slice oa na oc) (.slice aa na na) ∧ Touch (fun k => k = rb ∨ k = bw) w wr) (fun i _ => 0)
    case atStart => exact ⟨rfl, R0.out.keep ((Touch.refl _ w).drewN _), (Touch.refl _ w).drewN _⟩
    case round =>
      obtain ⟨wo, rfl⟩ : ∃ wo : World, wo = wr := ⟨_, rfl⟩
      obtain ⟨rfl, hRn, T1⟩ := hrel
      have HRn := Lib.hid hRn
      clear hRn
      go_wp2_with fail
      go_returns
      exact ⟨rfl, HRn.out, T1⟩
  obtain ⟨g, rfl⟩ : ∃ g, aa = some ⟨g, 0, none⟩ := haa.resolve_left (fun h => hcn (by omega))
  clear haa
  go_enter Try.func24, Try.ntmps24
  go_wp2_with fail
  go_quiet (fail)
  go_wp2_with fail
  go_loopw [17] (fun i wr => ∃ k : Nat, k ≤ q ∧ i = .int .i64 k ∧ Rn wr ba bw n (SK k) bt A m cap C rb y thr tt od (.slice oa no oc) (.slice (some ⟨g, 0, none⟩) na ac) ∧ Touch (fun k => k = rb ∨ k = bw) w wr) (fun i _ => q - (intOf i).toNat)
  case atStart => exact ⟨0, Nat.zero_le _, rfl, R0.out.keep ((Touch.refl _ w).drewN _), (Touch.refl _ w).drewN _⟩
  case round =>
    obtain ⟨wo, rfl⟩ : ∃ wo : World, wo = wr := ⟨_, rfl⟩
    obtain ⟨k, hk, rfl, hRn, T1⟩ := hrel
    have HRn := Lib.hid hRn
    have So := hRn.st
    have hRo := hRn.blk
    have hrl := hRo.lt
    have hbl := So.ar.lt2
    have HNo := Lib.hid (So.lows hm)
    have K0 := Touch.refl (fun k => k = rb ∨ k = bw) wo
    clear hRn
    by_cases hlt : k < q
    · obtain ⟨b, off, he, e0⟩ := (HRd.out.keepS T1 (fun b off e q => by have := HAw.out b off e; omega)).one (show no + k < na by omega)
      simp only [Option.some.injEq, Addr.mk.injEq, and_true] at he
      obtain ⟨rfl, rfl⟩ := he
      have e1 : wo.cell? ⟨g, 0 + (no + k), none⟩ = some (.int .i64 (X k)) := by rw [← HX.out k hlt]; exact e0
      have e2 : wo.cell? ⟨g, no + k, none⟩ = some (.int .i64 (X k)) := by rw [Nat.zero_add] at e1; exact e1
      have hkI : (k : Int) < q := by omega
      clear e0
      unfold rnL at hRo
      have l1 := hRo.lt
      have c2 : wo.cell? ⟨rb, 1, none⟩ = some (.pointer (some ⟨ba, 0, none⟩)) := hRo.c 1 _ rfl
      have c3 : wo.cell? ⟨rb, 2, none⟩ = some (.pointer (some ⟨bt, 0, none⟩)) := hRo.c 2 _ rfl
      go_wp2_with fail
      refine Calls.mono (HHd.out k hlt _ So) ?_
      rintro e w4 ⟨rfl, kw4⟩
      have Kw4 := Touch.trans K0 kw4 (fun _ e _ => e.elim)
      have Bw4_RB := BL.keep hRo kw4
      have zw4 := kw4.size
      have Sw4 := St.keep So kw4
      clear l1 c2 c3 So hRo K0 kw4
      have l5 := Bw4_RB.lt
      go_wp2_with fail
      refine named_code (fun W6 hW6 => ?_)
      have KW6 : Touch (fun k => k = rb ∨ k = bw) wo W6 := by rw [hW6]; exact (Kw4.alloc _)
      have BW6_RB : BL W6 (rb) 70 [.pointer (some ⟨ba, 0, none⟩), .pointer (some ⟨ba, 0, none⟩), .pointer (some ⟨bt, 0, none⟩), .int .i64 (y 0).f, .int .i64 (y 0).t, .int .i64 (y 0).e, .int .i64 (y 1).f, .int .i64 (y 1).t, .int .i64 (y 1).e, .int .i64 (y 2).f, .int .i64 (y 2).t, .int .i64 (y 2).e, .int .i64 (y 3).f, .int .i64 (y 3).t, .int .i64 (y 3).e, .int .i64 thr, .int .i64 tt.f, .int .i64 tt.t, .int .i64 tt.e, .int .i64 od.f, .int .i64 od.t, .int .i64 od.e, .slice oa no oc, .slice (some ⟨g, 0, none⟩) na ac] := by rw [hW6]; exact (BL.alloc Bw4_RB _)
      have BW6_H : BL W6 (w4.heap.size) 96 [.int .i64 (Hk k).cls, .int .i64 (Hk k).age, .int .i64 0, .bool (Hk k).mark, .bool (Hk k).fin, .bool (Hk k).done] := by rw [hW6]; exact (BL.new1 _ _ _ [.int .i64 (Hk k).cls, .int .i64 (Hk k).age, .int .i64 0, .bool (Hk k).mark, .bool (Hk k).fin, .bool (Hk k).done] _ (by simp) rfl)
      have zW6 : w4.heap.size + 1 ≤ W6.heap.size := by rw [hW6]; simp
      have SW6 := St.aside Sw4 (show Touch (fun k => wo.heap.size ≤ k ∨ k = rb) w4 W6 by rw [hW6]; exact ((Touch.refl _ w4).alloc _)) HNo.out HNe.out
      clear l5 Sw4 Bw4_RB Kw4 hW6
      have l7 := BW6_RB.lt
      have l8 := BW6_H.lt
      clear l7 l8
      have l9 := BW6_RB.lt
      have l10 := BW6_H.lt
      have d1 := BW6_RB.c 1 _ rfl
      have d2 := BW6_RB.c 2 _ rfl
      have e0 := BW6_H.c 0 _ rfl
      have e1 := BW6_H.c 1 _ rfl
      have e2 := BW6_H.c 2 _ rfl
      have e3 := BW6_H.c 3 _ rfl
      have e4 := BW6_H.c 4 _ rfl
      have e5 := BW6_H.c 5 _ rfl
      refine wp_region_noPanic ?_
      refine wp_region_held_drew (S := (fun w' => Only bw W6 w')) (by kernel_rfl) (Only.refl _ W6).drew (fun hHeld => ?_)
      refine' wpAnyH_take (i := 0) ?hi0_1 ?hs0_1 ?hf0_1 ?hr0_1 ?hQ0_1 ?hy0_1 (by assumption) ?rest0_1
      case hi0_1 => simp only [List.getElem?_toArray, List.getElem?_cons_zero] <;> rfl
      case hs0_1 => kernel_rfl
      case hf0_1 => kernel_rfl
      case hr0_1 => kernel_rfl
      case hQ0_1 => exact fun _ _ _ h => h
      case hy0_1 => exact Or.inl ⟨by rfl, fun w hSw => by have q1 := cell_only d1 hSw (by show rb ≠ bw; omega); have q2 := cell_only d2 hSw (by show rb ≠ bw; omega); have p0 := cell_only e0 hSw (by show w4.heap.size ≠ bw; omega); have p1 := cell_only e1 hSw (by show w4.heap.size ≠ bw; omega); have p2 := cell_only e2 hSw (by show w4.heap.size ≠ bw; omega); have p3 := cell_only e3 hSw (by show w4.heap.size ≠ bw; omega); have p4 := cell_only e4 hSw (by show w4.heap.size ≠ bw; omega); have p5 := cell_only e5 hSw (by show w4.heap.size ≠ bw; omega); go_simp <;> (try with_reducible rfl)⟩
      simp only [Act.put, List.setIfInBounds_toArray, List.set_cons_zero, List.set_cons_succ]
      refine' wpAnyH_take (i := 1) ?hi1_1 ?hs1_1 ?hf1_1 ?hr1_1 ?hQ1_1 ?hy1_1 (by assumption) ?rest1_1
      case hi1_1 => simp only [List.getElem?_toArray, List.getElem?_cons_succ, List.getElem?_cons_zero] <;> rfl
      case hs1_1 => kernel_rfl
      case hf1_1 => kernel_rfl
      case hr1_1 => kernel_rfl
      case hQ1_1 => exact fun _ _ _ h => h
      case hy1_1 => exact Or.inl ⟨by rfl, fun w hSw => by have q1 := cell_only d1 hSw (by show rb ≠ bw; omega); have q2 := cell_only d2 hSw (by show rb ≠ bw; omega); have p0 := cell_only e0 hSw (by show w4.heap.size ≠ bw; omega); have p1 := cell_only e1 hSw (by show w4.heap.size ≠ bw; omega); have p2 := cell_only e2 hSw (by show w4.heap.size ≠ bw; omega); have p3 := cell_only e3 hSw (by show w4.heap.size ≠ bw; omega); have p4 := cell_only e4 hSw (by show w4.heap.size ≠ bw; omega); have p5 := cell_only e5 hSw (by show w4.heap.size ≠ bw; omega); go_simp <;> (try with_reducible rfl)⟩
      simp only [Act.put, List.setIfInBounds_toArray, List.set_cons_zero, List.set_cons_succ]
      refine' wpAnyH_take (i := 2) ?hi2_1 ?hs2_1 ?hf2_1 ?hr2_1 ?hQ2_1 ?hy2_1 (by assumption) ?rest2_1
      case hi2_1 => simp only [List.getElem?_toArray, List.getElem?_cons_succ, List.getElem?_cons_zero] <;> rfl
      case hs2_1 => kernel_rfl
      case hf2_1 => kernel_rfl
      case hr2_1 => kernel_rfl
      case hQ2_1 => exact fun _ _ _ h => h
      case hy2_1 => exact Or.inl ⟨by rfl, fun w hSw => by have q1 := cell_only d1 hSw (by show rb ≠ bw; omega); have q2 := cell_only d2 hSw (by show rb ≠ bw; omega); have p0 := cell_only e0 hSw (by show w4.heap.size ≠ bw; omega); have p1 := cell_only e1 hSw (by show w4.heap.size ≠ bw; omega); have p2 := cell_only e2 hSw (by show w4.heap.size ≠ bw; omega); have p3 := cell_only e3 hSw (by show w4.heap.size ≠ bw; omega); have p4 := cell_only e4 hSw (by show w4.heap.size ≠ bw; omega); have p5 := cell_only e5 hSw (by show w4.heap.size ≠ bw; omega); go_simp <;> (try with_reducible rfl)⟩
      simp only [Act.put, List.setIfInBounds_toArray, List.set_cons_zero, List.set_cons_succ]
      refine' wpAnyH_take (i := 3) ?hi3_1 ?hs3_1 ?hf3_1 ?hr3_1 ?hQ3_1 ?hy3_1 (by assumption) ?rest3_1
      case hi3_1 => simp only [List.getElem?_toArray, List.getElem?_cons_succ, List.getElem?_cons_zero] <;> rfl
      case hs3_1 => kernel_rfl
      case hf3_1 => kernel_rfl
      case hr3_1 => kernel_rfl
      case hQ3_1 => exact fun _ _ _ h => h
      case hy3_1 => exact Or.inl ⟨by rfl, fun w hSw => by have q1 := cell_only d1 hSw (by show rb ≠ bw; omega); have q2 := cell_only d2 hSw (by show rb ≠ bw; omega); have p0 := cell_only e0 hSw (by show w4.heap.size ≠ bw; omega); have p1 := cell_only e1 hSw (by show w4.heap.size ≠ bw; omega); have p2 := cell_only e2 hSw (by show w4.heap.size ≠ bw; omega); have p3 := cell_only e3 hSw (by show w4.heap.size ≠ bw; omega); have p4 := cell_only e4 hSw (by show w4.heap.size ≠ bw; omega); have p5 := cell_only e5 hSw (by show w4.heap.size ≠ bw; omega); go_simp <;> (try with_reducible rfl)⟩
      simp only [Act.put, List.setIfInBounds_toArray, List.set_cons_zero, List.set_cons_succ]
      refine' wpAnyH_take (i := 4) ?hi4_1 ?hs4_1 ?hf4_1 ?hr4_1 ?hQ4_1 ?hy4_1 (by assumption) ?rest4_1
      case hi4_1 => simp only [List.getElem?_toArray, List.getElem?_cons_succ, List.getElem?_cons_zero] <;> rfl
      case hs4_1 => kernel_rfl
      case hf4_1 => kernel_rfl
      case hr4_1 => kernel_rfl
      case hQ4_1 => exact fun _ _ _ h => h
      case hy4_1 => exact Or.inl ⟨by rfl, fun w hSw => by have q1 := cell_only d1 hSw (by show rb ≠ bw; omega); have q2 := cell_only d2 hSw (by show rb ≠ bw; omega); have p0 := cell_only e0 hSw (by show w4.heap.size ≠ bw; omega); have p1 := cell_only e1 hSw (by show w4.heap.size ≠ bw; omega); have p2 := cell_only e2 hSw (by show w4.heap.size ≠ bw; omega); have p3 := cell_only e3 hSw (by show w4.heap.size ≠ bw; omega); have p4 := cell_only e4 hSw (by show w4.heap.size ≠ bw; omega); have p5 := cell_only e5 hSw (by show w4.heap.size ≠ bw; omega); go_simp <;> (try with_reducible rfl)⟩
      simp only [Act.put, List.setIfInBounds_toArray, List.set_cons_zero, List.set_cons_succ]
      refine' wpAnyH_take (i := 5) ?hi5_1 ?hs5_1 ?hf5_1 ?hr5_1 ?hQ5_1 ?hy5_1 (by assumption) ?rest5_1
      case hi5_1 => simp only [List.getElem?_toArray, List.getElem?_cons_succ, List.getElem?_cons_zero] <;> rfl
      case hs5_1 => kernel_rfl
      case hf5_1 => kernel_rfl
      case hr5_1 => kernel_rfl
      case hQ5_1 => exact fun _ _ _ h => h
      case hy5_1 => exact Or.inl ⟨by rfl, fun w hSw => by have q1 := cell_only d1 hSw (by show rb ≠ bw; omega); have q2 := cell_only d2 hSw (by show rb ≠ bw; omega); have p0 := cell_only e0 hSw (by show w4.heap.size ≠ bw; omega); have p1 := cell_only e1 hSw (by show w4.heap.size ≠ bw; omega); have p2 := cell_only e2 hSw (by show w4.heap.size ≠ bw; omega); have p3 := cell_only e3 hSw (by show w4.heap.size ≠ bw; omega); have p4 := cell_only e4 hSw (by show w4.heap.size ≠ bw; omega); have p5 := cell_only e5 hSw (by show w4.heap.size ≠ bw; omega); go_simp <;> (try with_reducible rfl)⟩
      simp only [Act.put, List.setIfInBounds_toArray, List.set_cons_zero, List.set_cons_succ]
      refine wpAnyH_ready (rs := [6]) (by kernel_rfl) (by simp) ?_
      refine AllReadyH.cons rfl (fun K hK => ?_) AllReadyH.nil
      go_simp
      with_reducible refine Calls.mono (HSH.out k hlt _ (St.keep SW6 (Touch.drew (Touch.refl (fun _ => False) W6)))) ?_
      rintro e w11 ⟨rfl, Sw11, ow11⟩
      go_wp2_with fail
      refine hK.out _ _ (hHeld.trans_ ow11) (fun hHeld => ?_)
      clear hK K
      refine wpAnyH_done (by kernel_rfl) ?_ _
      refine NoPanic.normal ?_
      have ow11_ : Only bw W6 w11 := hHeld
      clear hHeld d1 d2 e0 e1 e2 e3 e4 e5 ow11
      have Kw11 := Touch.trans KW6 ow11_ (fun _ e _ => .inr e)
      have Bw11_RB := BL.touch BW6_RB ow11_ (by show ¬ (rb = bw); omega)
      have zw11 := ow11_.size
      clear l9 l10 BW6_RB BW6_H KW6 ow11_ SW6
      have l12 := Bw11_RB.lt
      go_wp2_with fail
      go_roundw
      case rel => exact ⟨k + 1, by omega, by go_num, ⟨Sw11, Bw11_RB, HNe.out⟩, Touch.trans T1 Kw11 (fun _ e _ => e)⟩
      case measure => simp [intOf]; omega
    · have he : k = q := by omega
      subst he
      go_wp2_with fail
      go_returns
      exact ⟨rfl, HRn.out, T1⟩

end

end Go.Proofs.Ytabfbgkablbeeaa
