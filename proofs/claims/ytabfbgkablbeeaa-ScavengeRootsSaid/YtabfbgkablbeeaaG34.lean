/- Layer 15, scavenge: check, of a heap that is right. -/
import Derived.Test.YtabfbgkablbeeaaG32
import Derived.Test.YtabfbgkablbeeaaG33
import Derived.Test.YtabfbgkablbeeaaG30
import Derived.Laws.EntriesVeiled
set_option linter.all false

namespace Go.Proofs.Ytabfbgkablbeeaa
open Go.RowKit

def usedY (y : Nat → Sp) : Int := (y 1).t - (y 1).f + ((y 2).t - (y 2).f)
def CheckOut (n m : Nat) (C : Nat → Cl) (f : Nat → Int) (y : Nat → Sp) (G : Nat → List Int) (ba bw bt : Nat) (A : Option Addr) (cap rb : Nat) (thr : Int) (tt od : Sp) (w : World) (e : Ending) (w' : World) : Prop :=
  ∃ ov av, e = .returned (.int .i64 (if (y 0).e - (y 0).t < usedY y then 3 else 0)) ∧ Rn w' ba bw n f bt A m cap C rb y thr tt od ov av ∧ OwnInts w' w.heap.size ov (G 0) ∧ OwnInts w' w.heap.size av (G 0 ++ (G 1 ++ G 2)) ∧ Touch (fun k => k = rb) w w'
def accG (G : Nat → List Int) : Nat → List Int
  | 0 => []
  | k + 1 => accG G k ++ G k
theorem rd_three {w : World} {b : Nat} {T : TypeId} {y : Nat → Sp} (h : BL w b T [.int .i64 (y 0).f, .int .i64 (y 0).t, .int .i64 (y 0).e, .int .i64 (y 1).f, .int .i64 (y 1).t, .int .i64 (y 1).e, .int .i64 (y 2).f, .int .i64 (y 2).t, .int .i64 (y 2).e]) : Rd w (some ⟨b, 0, none⟩) (3 * 3) (spF y) := fun _ => ⟨b, 0, rfl, h.lt, fun j hj => by
  rw [Nat.zero_add]
  rcases (by omega : j = 0 ∨ j = 1 ∨ j = 2 ∨ j = 3 ∨ j = 4 ∨ j = 5 ∨ j = 6 ∨ j = 7 ∨ j = 8) with rfl | rfl | rfl | rfl | rfl | rfl | rfl | rfl | rfl <;> exact h.c _ _ rfl⟩
theorem tells_no {P : Prop} {w w' : World} {e : Ending} (h : Tells P w e w') (hp : ¬ P) : e = .returned (.bool false) ∧ Keeps w w' := by
  obtain ⟨b, rfl, hb, k⟩ := h
  cases b with
  | true => exact absurd (hb.1 rfl) hp
  | false => exact ⟨rfl, k⟩
section
variable {n m : Nat} {C : Nat → Cl} {f : Nat → Int} {G : Nat → List Int}
variable {w : World} {ba bw bt : Nat} {A : Option Addr} {cap : Nat} {rb : Nat} {y : Nat → Sp} {thr : Int} {tt od : Sp} {olds all : Value} {ra : Option Addr} {rn rc : Nat} {Rt : Nat → Int} {tb mb vb : Nat} {D : Nat → Bool}
theorem HW.in1 (H : HW n m C f y G) {a : Int} (h : inG G a) : 1 ≤ a ∧ a < n ∧ (objP (atT n f m C a)).2 = 0 ∧ objP (atT n f m C a) = atT n f m C a := by
  obtain ⟨k, hk, ha⟩ := h
  have h1 := H.obj hk ha
  have e : objP (atT n f m C a) = atT n f m C a := objP_same (by rw [h1.1]; exact fun q => h1.2.1 q.2)
  exact ⟨h1.2.2.2.2.2.1, by omega, by rw [e, h1.1], e⟩
theorem HW.len (H : HW n m C f y G) {k : Nat} (hk : k < 3) : (G k).length ≤ 4096 := by
  have h1 := (H.tile k hk).len
  have h2 := H.bd k hk
  have h3 := H.n4
  omega
set_option maxRecDepth 100000 in
set_option maxHeartbeats 4000000 in
theorem check_any (H : HW n m C f y G) (h : Rn w ba bw n f bt A m cap C rb y thr tt od olds all) (hm : 0 < m) (hra : Rd w ra rn (intF .i64 Rt)) (hrn : rn ≤ 1000) (hrt : ∀ i, i < rn → Rt i = 0 ∨ inG G (Rt i)) (hrb : ∀ b off, ra = some ⟨b, off, none⟩ → b ≠ rb)
    (hD : Cd w tb mb vb D) (hDr : tb ≠ rb ∧ mb ≠ rb ∧ vb ≠ rb) (hO : (y 0).e ≤ 401) (hdirty : ∀ a, a ∈ G 0 → LeadsTo n m C f (ygB (y 1) (y 2)) a → D (cardN a) = true) :
    Calls Try.prog 23 #[.pointer (some ⟨rb, 0, none⟩), .slice ra rn rc, .pointer (some ⟨tb, 0, none⟩)] w (CheckOut n m C f y G ba bw bt A cap rb thr tt od w) := by
  have hn4 := H.n4
  have HWk := Lib.hid (show ∀ k, k < 3 → ∀ w', St w' ba bw n f bt A m cap C → Calls Try.prog 29 #[.agg #[.pointer (some ⟨ba, 0, none⟩), .pointer (some ⟨bt, 0, none⟩)], .int .i64 (y k).f, .int .i64 (y k).t] w' fun e w2 => ∃ v, e = .returned (.tuple #[v, .int .i64 0]) ∧ OwnInts w2 w'.heap.size v (G k) ∧ Keeps w' w2 from fun k hk w' q => by
    have hb := H.bd k hk
    refine (walk_any ba bw n f bt A m cap C w' q (y k).f (y k).t ⟨by omega, by omega⟩).mono ?_
    rintro e w2 ⟨v, L, x, he, hw, ho, hk2⟩
    obtain ⟨rfl, rfl⟩ := hw.det (H.tile k hk).walk
    exact ⟨v, he, ho, hk2⟩)
  have hl0 := H.len (k := 0) (by omega)
  have hl1 := H.len (k := 1) (by omega)
  have hl2 := H.len (k := 2) (by omega)
  have HLen := Lib.hid (show ∀ k, k < 3 → (accG G k).length + (G k).length ≤ 1000000 from fun k hk => by
    rcases (by omega : k = 0 ∨ k = 1 ∨ k = 2) with rfl | rfl | rfl <;> (simp only [accG, List.length_append, List.length_nil]; omega))
  have HLenA := Lib.hid (show (G 0 ++ (G 1 ++ G 2)).length ≤ 20000 from by simp only [List.length_append]; omega)
  have HR3 := Lib.hid (show ∀ k, k < 3 → rightB (y k) = true from fun k hk => (rightB_iff _).2 (by have := H.bd k hk; omega))
  have S0 := h.st
  have hR := h.blk
  unfold rnL at hR
  have hrl := hR.lt
  have hN0 := S0.lows hm
  have HN := Lib.hid hN0
  have HNe := Lib.hid h.ne
  have hdl := hD.lt
  obtain ⟨hd1, hd2, hd3⟩ := hDr
  have hmk := make_set ((w.alloc (.cells #[.pointer (some ⟨rb, 0, none⟩)] 68)).alloc (.cells #[.pointer (some ⟨tb, 0, none⟩)] 40))
  obtain ⟨w3, hput0, hM3, hO3⟩ := (SetIs.made ((w.alloc (.cells #[.pointer (some ⟨rb, 0, none⟩)] 68)).alloc (.cells #[.pointer (some ⟨tb, 0, none⟩)] 40))).put (x := 0) ⟨by omega, by omega⟩ (by omega)
  simp only [World.size_alloc] at hput0 hM3 hO3
  have z3 := hO3.size
  simp only [World.size_alloc] at z3
  have K3 : Keeps w w3 := Touch.trans ((((Touch.refl (fun _ => False) w).alloc _).alloc _).alloc _) hO3 (fun x e hx => by omega)
  have B3 : BL w3 w.heap.size 68 [.pointer (some ⟨rb, 0, none⟩)] := BL.touch ((((BL.new1 w 68 _ [.pointer (some ⟨rb, 0, none⟩)] _ rfl rfl).alloc _).alloc _)) hO3 (by omega)
  have B5 : BL w3 (w.heap.size + 1) 40 [.pointer (some ⟨tb, 0, none⟩)] := BL.touch ((BL.new1 _ 40 _ [.pointer (some ⟨tb, 0, none⟩)] _ (by simp) rfl).alloc _) hO3 (by omega)
  have BR3 := hR.keep K3
  have r23 := BR3.c 23 _ rfl
  have g23 := BR3.fz 23
  have e3 := B3.c 0 _ rfl
  have l1 := B3.lt
  have l2 := BR3.lt
  go_enter Try.func23, Try.ntmps23
  go_upto_region 3 with fail
  refine named_code (fun W4 hW4 => ?_)
  have T4 : Touch (fun k => k = rb) w W4 := by rw [hW4]; exact (Touch.setCell (S := fun kk => kk = rb) (p := ⟨rb, 23, none⟩) (K3.mono (fun _ h _ => h.elim)) (fun _ => rfl) _).alloc _
  have BR4 : BL W4 rb 70 [.pointer (some ⟨ba, 0, none⟩), .pointer (some ⟨ba, 0, none⟩), .pointer (some ⟨bt, 0, none⟩), .int .i64 (y 0).f, .int .i64 (y 0).t, .int .i64 (y 0).e, .int .i64 (y 1).f, .int .i64 (y 1).t, .int .i64 (y 1).e, .int .i64 (y 2).f, .int .i64 (y 2).t, .int .i64 (y 2).e, .int .i64 (y 3).f, .int .i64 (y 3).t, .int .i64 (y 3).e, .int .i64 thr, .int .i64 tt.f, .int .i64 tt.t, .int .i64 tt.e, .int .i64 od.f, .int .i64 od.t, .int .i64 od.e, olds, .slice none 0 0] := by rw [hW4]; exact (BR3.set 23 _).alloc _
  have B34 : BL W4 w.heap.size 68 [.pointer (some ⟨rb, 0, none⟩)] := by rw [hW4]; exact (B3.other (p := ⟨rb, 23, none⟩) (show w.heap.size ≠ rb by omega) _).alloc _
  have B54 : BL W4 (w.heap.size + 1) 40 [.pointer (some ⟨tb, 0, none⟩)] := by rw [hW4]; exact (B5.other (p := ⟨rb, 23, none⟩) (show w.heap.size + 1 ≠ rb by omega) _).alloc _
  have BV4 : BL W4 w3.heap.size 107 [.map (some (w.heap.size + 1 + 1))] := by rw [hW4]; exact BL.new1 _ 107 _ [.map (some (w.heap.size + 1 + 1))] _ (by simp) rfl
  have M4 : SetIs W4 (w.heap.size + 1 + 1) (putB (fun _ => false) 0) 1 1 := by rw [hW4]; exact hM3.touch ((Touch.setCell (S := fun kk => kk = rb) (p := ⟨rb, 23, none⟩) (Touch.refl (fun kk => kk = rb) w3) (fun _ => rfl) _).alloc _) (show ¬ (w.heap.size + 1 + 1 = rb) by omega)
  have z4 : w3.heap.size < W4.heap.size := BV4.lt
  have S4 : St W4 ba bw n f bt A m cap C := S0.aside (T4.mono (fun _ h _ => .inr h)) HN.out HNe.out
  have HB34 := Lib.hid B34
  have HB54 := Lib.hid B54
  have HBV4 := Lib.hid BV4
  have HM4 := Lib.hid M4
  have HS4 := Lib.hid S4
  have HT4 := Lib.hid T4
  have s0 := B34.c 0 _ rfl
  have s3 := BR4.c 3 _ rfl
  have s4 := BR4.c 4 _ rfl
  have s5 := BR4.c 5 _ rfl
  have s6 := BR4.c 6 _ rfl
  have s7 := BR4.c 7 _ rfl
  have s8 := BR4.c 8 _ rfl
  have s9 := BR4.c 9 _ rfl
  have s10 := BR4.c 10 _ rfl
  have s11 := BR4.c 11 _ rfl
  clear hW4 BR3 r23 g23 e3 l1 l2 B3 B5 K3 hput0 hM3 hO3 hmk hN0 M4 S4 T4 B34 B54 BV4
  go_region_held3 (fun w' => (w'.cell? ⟨w.heap.size, 0, none⟩ = some (.pointer (some ⟨rb, 0, none⟩)) ∧ w'.cell? ⟨rb, 3, none⟩ = some (.int .i64 (y 0).f) ∧ w'.cell? ⟨rb, 4, none⟩ = some (.int .i64 (y 0).t) ∧ w'.cell? ⟨rb, 5, none⟩ = some (.int .i64 (y 0).e) ∧ w'.cell? ⟨rb, 6, none⟩ = some (.int .i64 (y 1).f) ∧ w'.cell? ⟨rb, 7, none⟩ = some (.int .i64 (y 1).t) ∧ w'.cell? ⟨rb, 8, none⟩ = some (.int .i64 (y 1).e) ∧ w'.cell? ⟨rb, 9, none⟩ = some (.int .i64 (y 2).f) ∧ w'.cell? ⟨rb, 10, none⟩ = some (.int .i64 (y 2).t) ∧ w'.cell? ⟨rb, 11, none⟩ = some (.int .i64 (y 2).e)))
    (first | assumption | go_keep)
    (fail)
  go_wp2_with fail
  refine named_code (fun Wx hWx => ?_)
  have kx : Keeps W4 Wx := by rw [hWx]; exact (Touch.drew (Touch.refl _ W4)).alloc _
  have BLx : BL Wx W4.heap.size 36 [.int .i64 (y 0).f, .int .i64 (y 0).t, .int .i64 (y 0).e, .int .i64 (y 1).f, .int .i64 (y 1).t, .int .i64 (y 1).e, .int .i64 (y 2).f, .int .i64 (y 2).t, .int .i64 (y 2).e] := by rw [hWx]; exact BL.new1 _ 36 _ [.int .i64 (y 0).f, .int .i64 (y 0).t, .int .i64 (y 0).e, .int .i64 (y 1).f, .int .i64 (y 1).t, .int .i64 (y 1).e, .int .i64 (y 2).f, .int .i64 (y 2).t, .int .i64 (y 2).e] _ rfl rfl
  have BRx := BR4.keep kx
  have hL := rd_three BLx
  have zx := kx.size
  have zx1 : W4.heap.size < Wx.heap.size := BLx.lt
  have HKx := Lib.hid kx
  have Tx : Touch (fun k => k = rb) w Wx := Touch.trans HT4.out kx (fun _ e _ => e.elim)
  have HTx := Lib.hid Tx
  clear hWx BLx kx BR4 Tx hR s0 s3 s4 s5 s6 s7 s8 s9 s10 s11
  go_loopw [37] (fun i wr => ∃ (k : Nat) (ov av : Value), k ≤ 3 ∧ i = .int .i64 k ∧ BL wr rb 70 [.pointer (some ⟨ba, 0, none⟩), .pointer (some ⟨ba, 0, none⟩), .pointer (some ⟨bt, 0, none⟩), .int .i64 (y 0).f, .int .i64 (y 0).t, .int .i64 (y 0).e, .int .i64 (y 1).f, .int .i64 (y 1).t, .int .i64 (y 1).e, .int .i64 (y 2).f, .int .i64 (y 2).t, .int .i64 (y 2).e, .int .i64 (y 3).f, .int .i64 (y 3).t, .int .i64 (y 3).e, .int .i64 thr, .int .i64 tt.f, .int .i64 tt.t, .int .i64 tt.e, .int .i64 od.f, .int .i64 od.t, .int .i64 od.e, ov, av] ∧ (0 < k → OwnInts wr Wx.heap.size ov (G 0)) ∧ OwnInts wr Wx.heap.size av (accG G k) ∧ (0 < k → ∀ kk, ov.ownBlock = some kk → ¬ av.ownBlock = some kk) ∧ Touch (fun k => k = rb) Wx wr) (fun i _ => 3 - (intOf i).toNat)
  case atStart => exact ⟨0, olds, .slice none 0 0, by omega, rfl, BRx, fun h => by omega, OwnInts.nil_ _ _, fun h => by omega, Touch.refl _ _⟩
  case round =>
    obtain ⟨wo, rfl⟩ : ∃ wo : World, wo = wr := ⟨_, rfl⟩
    obtain ⟨k, ov, av, hk, rfl, hBR, hOv, hAv, hNv, T1⟩ := hrel
    have zo := T1.size
    have HOv := Lib.hid hOv
    have HAv := Lib.hid hAv
    have HNv := Lib.hid hNv
    have HT1 := Lib.hid T1
    have HB3 := Lib.hid (BL.touch (HB34.out.keep HKx.out) T1 (show ¬ (w.heap.size = rb) by omega))
    have So := Lib.hid ((HS4.out.keep HKx.out).aside (T1.mono (fun _ h _ => .inr h)) HN.out HNe.out)
    clear hOv hAv hNv BRx
    by_cases hlt : k < 3
    · obtain ⟨b, off, he, d0, d1, d2⟩ := (hL.keepS T1 (fun b off e q => by simp only [Option.some.injEq, Addr.mk.injEq, and_true] at e; omega)).sp hlt
      simp only [Option.some.injEq, Addr.mk.injEq, and_true] at he
      obtain ⟨rfl, rfl⟩ := he
      rw [Nat.zero_add] at d0 d1 d2
      have hkI : (k : Int) < 3 := by omega
      clear T1
      go_wp2_with fail
      refine named_code (fun W6 hW6 => ?_)
      have k6 : Keeps wo W6 := by rw [hW6]; exact (Touch.refl _ _).alloc _
      have b6 : BL W6 wo.heap.size 36 [.int .i64 (y k).f, .int .i64 (y k).t, .int .i64 (y k).e] := by rw [hW6]; exact BL.new1 _ _ _ [.int .i64 (y k).f, .int .i64 (y k).t, .int .i64 (y k).e] _ rfl rfl
      have e1 := (HB3.out.keep k6).c 0 _ rfl
      have BR6 := hBR.keep k6
      have e2 := BR6.c 1 _ rfl
      have e3 := BR6.c 2 _ rfl
      have e4 := b6.c 0 _ rfl
      have e5 := b6.c 1 _ rfl
      have S6 := Lib.hid (So.out.keep k6)
      have z6 := k6.size
      clear hW6 d0 d1 d2 hBR b6
      refine wp_region_noPanic ?_
      refine wp_region_held_drew (S := (fun w' => Keeps W6 w')) (by kernel_rfl) (Touch.refl _ W6).drew (fun hHeld => ?_)
      refine' wpAnyH_take (i := 0) ?hi0_1 ?hs0_1 ?hf0_1 ?hr0_1 ?hQ0_1 ?hy0_1 (by assumption) ?rest0_1
      case hi0_1 => simp only [List.getElem?_toArray, List.getElem?_cons_zero] <;> rfl
      case hs0_1 => kernel_rfl
      case hf0_1 => kernel_rfl
      case hr0_1 => kernel_rfl
      case hQ0_1 => exact fun _ _ _ h => h
      case hy0_1 => exact Or.inl ⟨by rfl, fun w hSw => by have q1 := cell_keep e1 hSw; have q2 := cell_keep e2 hSw; have q3 := cell_keep e3 hSw; have q4 := cell_keep e4 hSw; have q5 := cell_keep e5 hSw; go_simp <;> (try with_reducible rfl)⟩
      simp only [Act.put, List.setIfInBounds_toArray, List.set_cons_zero, List.set_cons_succ]
      refine' wpAnyH_take (i := 1) ?hi1_1 ?hs1_1 ?hf1_1 ?hr1_1 ?hQ1_1 ?hy1_1 (by assumption) ?rest1_1
      case hi1_1 => simp only [List.getElem?_toArray, List.getElem?_cons_succ, List.getElem?_cons_zero] <;> rfl
      case hs1_1 => kernel_rfl
      case hf1_1 => kernel_rfl
      case hr1_1 => kernel_rfl
      case hQ1_1 => exact fun _ _ _ h => h
      case hy1_1 => exact Or.inl ⟨by rfl, fun w hSw => by go_simp <;> (try with_reducible rfl)⟩
      simp only [Act.put, List.setIfInBounds_toArray, List.set_cons_zero, List.set_cons_succ]
      refine' wpAnyH_take (i := 2) ?hi2_1 ?hs2_1 ?hf2_1 ?hr2_1 ?hQ2_1 ?hy2_1 (by assumption) ?rest2_1
      case hi2_1 => simp only [List.getElem?_toArray, List.getElem?_cons_succ, List.getElem?_cons_zero] <;> rfl
      case hs2_1 => kernel_rfl
      case hf2_1 => kernel_rfl
      case hr2_1 => kernel_rfl
      case hQ2_1 => exact fun _ _ _ h => h
      case hy2_1 => exact Or.inl ⟨by rfl, fun w hSw => by go_simp <;> (try with_reducible rfl)⟩
      simp only [Act.put, List.setIfInBounds_toArray, List.set_cons_zero, List.set_cons_succ]
      refine' wpAnyH_take (i := 3) ?hi3_1 ?hs3_1 ?hf3_1 ?hr3_1 ?hQ3_1 ?hy3_1 (by assumption) ?rest3_1
      case hi3_1 => simp only [List.getElem?_toArray, List.getElem?_cons_succ, List.getElem?_cons_zero] <;> rfl
      case hs3_1 => kernel_rfl
      case hf3_1 => kernel_rfl
      case hr3_1 => kernel_rfl
      case hQ3_1 => exact fun _ _ _ h => h
      case hy3_1 => exact Or.inl ⟨by rfl, fun w hSw => by have q1 := cell_keep e1 hSw; have q2 := cell_keep e2 hSw; have q3 := cell_keep e3 hSw; have q4 := cell_keep e4 hSw; have q5 := cell_keep e5 hSw; go_simp <;> (try with_reducible rfl)⟩
      simp only [Act.put, List.setIfInBounds_toArray, List.set_cons_zero, List.set_cons_succ]
      refine' wpAnyH_take (i := 4) ?hi4_1 ?hs4_1 ?hf4_1 ?hr4_1 ?hQ4_1 ?hy4_1 (by assumption) ?rest4_1
      case hi4_1 => simp only [List.getElem?_toArray, List.getElem?_cons_succ, List.getElem?_cons_zero] <;> rfl
      case hs4_1 => kernel_rfl
      case hf4_1 => kernel_rfl
      case hr4_1 => kernel_rfl
      case hQ4_1 => exact fun _ _ _ h => h
      case hy4_1 => exact Or.inl ⟨by rfl, fun w hSw => by go_simp <;> (try with_reducible rfl)⟩
      simp only [Act.put, List.setIfInBounds_toArray, List.set_cons_zero, List.set_cons_succ]
      refine' wpAnyH_take (i := 5) ?hi5_1 ?hs5_1 ?hf5_1 ?hr5_1 ?hQ5_1 ?hy5_1 (by assumption) ?rest5_1
      case hi5_1 => simp only [List.getElem?_toArray, List.getElem?_cons_succ, List.getElem?_cons_zero] <;> rfl
      case hs5_1 => kernel_rfl
      case hf5_1 => kernel_rfl
      case hr5_1 => kernel_rfl
      case hQ5_1 => exact fun _ _ _ h => h
      case hy5_1 => exact Or.inl ⟨by rfl, fun w hSw => by have q1 := cell_keep e1 hSw; have q2 := cell_keep e2 hSw; have q3 := cell_keep e3 hSw; have q4 := cell_keep e4 hSw; have q5 := cell_keep e5 hSw; go_simp <;> (try with_reducible rfl)⟩
      simp only [Act.put, List.setIfInBounds_toArray, List.set_cons_zero, List.set_cons_succ]
      refine' wpAnyH_take (i := 6) ?hi6_1 ?hs6_1 ?hf6_1 ?hr6_1 ?hQ6_1 ?hy6_1 (by assumption) ?rest6_1
      case hi6_1 => simp only [List.getElem?_toArray, List.getElem?_cons_succ, List.getElem?_cons_zero] <;> rfl
      case hs6_1 => kernel_rfl
      case hf6_1 => kernel_rfl
      case hr6_1 => kernel_rfl
      case hQ6_1 => exact fun _ _ _ h => h
      case hy6_1 => exact Or.inl ⟨by rfl, fun w hSw => by go_simp <;> (try with_reducible rfl)⟩
      simp only [Act.put, List.setIfInBounds_toArray, List.set_cons_zero, List.set_cons_succ]
      refine' wpAnyH_take (i := 7) ?hi7_1 ?hs7_1 ?hf7_1 ?hr7_1 ?hQ7_1 ?hy7_1 (by assumption) ?rest7_1
      case hi7_1 => simp only [List.getElem?_toArray, List.getElem?_cons_succ, List.getElem?_cons_zero] <;> rfl
      case hs7_1 => kernel_rfl
      case hf7_1 => kernel_rfl
      case hr7_1 => kernel_rfl
      case hQ7_1 => exact fun _ _ _ h => h
      case hy7_1 => exact Or.inl ⟨by rfl, fun w hSw => by have q1 := cell_keep e1 hSw; have q2 := cell_keep e2 hSw; have q3 := cell_keep e3 hSw; have q4 := cell_keep e4 hSw; have q5 := cell_keep e5 hSw; go_simp <;> (try with_reducible rfl)⟩
      simp only [Act.put, List.setIfInBounds_toArray, List.set_cons_zero, List.set_cons_succ]
      refine wpAnyH_ready (rs := [8]) (by kernel_rfl) (by simp) ?_
      refine AllReadyH.cons rfl (fun K hK => ?_) AllReadyH.nil
      go_simp
      with_reducible refine Calls.mono (HWk.out k hlt _ (S6.out.keep hHeld)) ?_
      rintro e w7 ⟨lv, rfl, hlv, k7⟩
      have HLv := Lib.hid (show OwnInts w7 W6.heap.size lv (G k) from hlv)
      clear hlv
      go_wp2_with fail
      refine hK.out _ _ (Keeps.trans hHeld k7) (fun hHeld => ?_)
      clear hK K
      refine' wpAnyH_take (i := 9) ?hi9_1 ?hs9_1 ?hf9_1 ?hr9_1 ?hQ9_1 ?hy9_1 (by assumption) ?rest9_1
      case hi9_1 => simp only [List.getElem?_toArray, List.getElem?_cons_succ, List.getElem?_cons_zero] <;> rfl
      case hs9_1 => kernel_rfl
      case hf9_1 => kernel_rfl
      case hr9_1 => kernel_rfl
      case hQ9_1 => exact fun _ _ _ h => h
      case hy9_1 => exact Or.inl ⟨by rfl, fun w hSw => by go_simp <;> (try with_reducible rfl)⟩
      simp only [Act.put, List.setIfInBounds_toArray, List.set_cons_zero, List.set_cons_succ]
      refine' wpAnyH_take (i := 10) ?hi10_1 ?hs10_1 ?hf10_1 ?hr10_1 ?hQ10_1 ?hy10_1 (by assumption) ?rest10_1
      case hi10_1 => simp only [List.getElem?_toArray, List.getElem?_cons_succ, List.getElem?_cons_zero] <;> rfl
      case hs10_1 => kernel_rfl
      case hf10_1 => kernel_rfl
      case hr10_1 => kernel_rfl
      case hQ10_1 => exact fun _ _ _ h => h
      case hy10_1 => exact Or.inl ⟨by rfl, fun w hSw => by go_simp <;> (try with_reducible rfl)⟩
      simp only [Act.put, List.setIfInBounds_toArray, List.set_cons_zero, List.set_cons_succ]
      refine' wpAnyH_take (i := 11) ?hi11_1 ?hs11_1 ?hf11_1 ?hr11_1 ?hQ11_1 ?hy11_1 (by assumption) ?rest11_1
      case hi11_1 => simp only [List.getElem?_toArray, List.getElem?_cons_succ, List.getElem?_cons_zero] <;> rfl
      case hs11_1 => kernel_rfl
      case hf11_1 => kernel_rfl
      case hr11_1 => kernel_rfl
      case hQ11_1 => exact fun _ _ _ h => h
      case hy11_1 => exact Or.inl ⟨by rfl, fun w hSw => by go_simp <;> (try with_reducible rfl)⟩
      simp only [Act.put, List.setIfInBounds_toArray, List.set_cons_zero, List.set_cons_succ]
      refine' wpAnyH_take (i := 12) ?hi12_1 ?hs12_1 ?hf12_1 ?hr12_1 ?hQ12_1 ?hy12_1 (by assumption) ?rest12_1
      case hi12_1 => simp only [List.getElem?_toArray, List.getElem?_cons_succ, List.getElem?_cons_zero] <;> rfl
      case hs12_1 => kernel_rfl
      case hf12_1 => kernel_rfl
      case hr12_1 => kernel_rfl
      case hQ12_1 => exact fun _ _ _ h => h
      case hy12_1 => exact Or.inl ⟨by rfl, fun w hSw => by go_simp <;> (try with_reducible rfl)⟩
      simp only [Act.put, List.setIfInBounds_toArray, List.set_cons_zero, List.set_cons_succ]
      refine' wpAnyH_take (i := 13) ?hi13_1 ?hs13_1 ?hf13_1 ?hr13_1 ?hQ13_1 ?hy13_1 (by assumption) ?rest13_1
      case hi13_1 => simp only [List.getElem?_toArray, List.getElem?_cons_succ, List.getElem?_cons_zero] <;> rfl
      case hs13_1 => kernel_rfl
      case hf13_1 => kernel_rfl
      case hr13_1 => kernel_rfl
      case hQ13_1 => exact fun _ _ _ h => h
      case hy13_1 => exact Or.inl ⟨by rfl, fun w hSw => by go_simp <;> (try with_reducible rfl)⟩
      simp only [Act.put, List.setIfInBounds_toArray, List.set_cons_zero, List.set_cons_succ]
      refine wpAnyH_done (by kernel_rfl) ?_ _
      refine NoPanic.normal ?_
      have kk7 : Keeps wo w7 := Keeps.trans k6 hHeld
      have BR7 := BR6.keep hHeld
      have HAvO := HAv
      have hAv7 := HAv.out.keep kk7
      have hOv7 := fun h => (HOv.out h).keep kk7
      clear HAv HOv
      have HAv := Lib.hid hAv7
      have HOv := Lib.hid hOv7
      have T7 := Lib.hid (Touch.trans HT1.out kk7 (fun _ e _ => e.elim) : Touch (fun k => k = rb) Wx w7)
      have e1 := (HB3.out.keep kk7).c 0 _ rfl
      have z7 := kk7.size
      have hlv6 := fun kk e => (HLv.out.lt kk e).1
      have HAvB := Lib.hid (show ∀ kk, av.ownBlock = some kk → kk < W6.heap.size from fun kk e => by have := (HAvO.out.lt kk e).2; omega)
      have r22 := BR7.c 22 _ rfl
      have g22 := BR7.fz 22
      have r23 := BR7.c 23 _ rfl
      have hlw := BR7.lt
      clear hHeld k6 BR6 e2 e3 e4 e5 hAv7 hOv7 kk7 k7
      by_cases hk0 : 0 < k
      · have hkb : ((k : Int) == 0) = false := by simp; omega
        clear r22 g22 hlv6
        go_wp2_with fail
        refine wp_region_noPanic ?_
        refine wp_region_held_drew (S := (fun w' => w'.cell? ⟨w.heap.size, 0, none⟩ = some (.pointer (some ⟨rb, 0, none⟩)))) (by kernel_rfl) e1 (fun hHeld => ?_)
        refine' wpAnyH_take (i := 0) ?hi0_2 ?hs0_2 ?hf0_2 ?hr0_2 ?hQ0_2 ?hy0_2 (by assumption) ?rest0_2
        case hi0_2 => simp only [List.getElem?_toArray, List.getElem?_cons_zero] <;> rfl
        case hs0_2 => kernel_rfl
        case hf0_2 => kernel_rfl
        case hr0_2 => kernel_rfl
        case hQ0_2 => exact fun _ _ _ h => h
        case hy0_2 => exact Or.inl ⟨by rfl, fun w hSw => by have q1 := hSw; go_simp <;> (try with_reducible rfl)⟩
        simp only [Act.put, List.setIfInBounds_toArray, List.set_cons_zero, List.set_cons_succ]
        refine' wpAnyH_take (i := 1) ?hi1_2 ?hs1_2 ?hf1_2 ?hr1_2 ?hQ1_2 ?hy1_2 (by assumption) ?rest1_2
        case hi1_2 => simp only [List.getElem?_toArray, List.getElem?_cons_succ, List.getElem?_cons_zero] <;> rfl
        case hs1_2 => kernel_rfl
        case hf1_2 => kernel_rfl
        case hr1_2 => kernel_rfl
        case hQ1_2 => exact fun _ _ _ h => h
        case hy1_2 => exact Or.inl ⟨by rfl, fun w hSw => by have q1 := hSw; go_simp <;> (try with_reducible rfl)⟩
        simp only [Act.put, List.setIfInBounds_toArray, List.set_cons_zero, List.set_cons_succ]
        refine' wpAnyH_take (i := 2) ?hi2_2 ?hs2_2 ?hf2_2 ?hr2_2 ?hQ2_2 ?hy2_2 (by assumption) ?rest2_2
        case hi2_2 => simp only [List.getElem?_toArray, List.getElem?_cons_succ, List.getElem?_cons_zero] <;> rfl
        case hs2_2 => kernel_rfl
        case hf2_2 => kernel_rfl
        case hr2_2 => kernel_rfl
        case hQ2_2 => exact fun _ _ _ h => h
        case hy2_2 => exact Or.inl ⟨by rfl, fun w hSw => by go_simp <;> (try with_reducible rfl)⟩
        simp only [Act.put, List.setIfInBounds_toArray, List.set_cons_zero, List.set_cons_succ]
        refine' wpAnyH_take (i := 3) ?hi3_2 ?hs3_2 ?hf3_2 ?hr3_2 ?hQ3_2 ?hy3_2 (by assumption) ?rest3_2
        case hi3_2 => simp only [List.getElem?_toArray, List.getElem?_cons_succ, List.getElem?_cons_zero] <;> rfl
        case hs3_2 => kernel_rfl
        case hf3_2 => kernel_rfl
        case hr3_2 => kernel_rfl
        case hQ3_2 => exact fun _ _ _ h => h
        case hy3_2 => exact Or.inl ⟨by rfl, fun w hSw => by go_simp <;> (try with_reducible rfl)⟩
        simp only [Act.put, List.setIfInBounds_toArray, List.set_cons_zero, List.set_cons_succ]
        refine' wpAnyH_take (i := 5) ?hi5_2 ?hs5_2 ?hf5_2 ?hr5_2 ?hQ5_2 ?hy5_2 (by assumption) ?rest5_2
        case hi5_2 => simp only [List.getElem?_toArray, List.getElem?_cons_succ, List.getElem?_cons_zero] <;> rfl
        case hs5_2 => kernel_rfl
        case hf5_2 => kernel_rfl
        case hr5_2 => kernel_rfl
        case hQ5_2 => exact fun _ _ _ h => h
        case hy5_2 => exact Or.inl ⟨by rfl, fun w hSw => by go_simp <;> (try with_reducible rfl)⟩
        simp only [Act.put, List.setIfInBounds_toArray, List.set_cons_zero, List.set_cons_succ]
        refine wpAnyH_ready (rs := [4]) (by kernel_rfl) (by simp) ?_
        refine AllReadyH.cons rfl (fun K hK => ?_) AllReadyH.nil
        go_simp
        refine hK.out _ _ hHeld (fun hHeld => ?_)
        clear hK K
        refine wpAnyH_ready (rs := [6]) (by kernel_rfl) (by simp) ?_
        refine AllReadyH.cons rfl (fun K hK => ?_) AllReadyH.nil
        rw [if_pos (show Region.wanted _ _ = true from rfl)]
        refine A5.wp_app_own (some 68) rfl (.tmp 66) (.tmp 67) rfl Wx.heap.size av (accG G k) (HAv.out.touch ((Touch.refl (fun _ => False) w7).drew) (fun _ _ h => h)) rfl _ lv (G k) (HLv.out.touch ((Touch.refl (fun _ => False) w7).drew) (fun _ _ h => h)) rfl (by have := HLen.out k hlt; omega) (show Wx.heap.size ≤ w7.heap.size by omega) ?_
        intro v9 w9 hown9 hgr9 hbl9
        have HGr := Lib.hid (show Touch (fun kk => av.ownBlock = some kk) w7 w9 from Touch.grown ((Touch.refl _ w7).drew) hgr9 (fun kk e _ => e))
        obtain ⟨ae, ce, hv9⟩ := hown9.form
        obtain ⟨ln, hln⟩ : ∃ ln, (accG G k ++ G k).length = ln := ⟨_, rfl⟩
        rw [hln] at hv9
        clear hln
        subst hv9
        have HO9 := Lib.hid hown9
        have HBl := Lib.hid (show _ ∨ _ = some w7.heap.size from hbl9)
        clear hown9 hgr9 hbl9
        have B9 := BR7.touch HGr.out (fun e => by have := (HAv.out.lt _ e).1; omega)
        have c23 := B9.c 23 _ rfl
        have f23 := B9.fz 23
        have e19 := cell_t e1 HGr.out (fun e => by have h1 : av.ownBlock = some w.heap.size := e; have := (HAv.out.lt _ h1).1; omega)
        refine hK.out _ _ e19 (fun hHeld => ?_)
        clear hK K
        refine' wpAnyH_take (i := 7) ?hi7_2 ?hs7_2 ?hf7_2 ?hr7_2 ?hQ7_2 ?hy7_2 (by assumption) ?rest7_2
        case hi7_2 => simp only [List.getElem?_toArray, List.getElem?_cons_succ, List.getElem?_cons_zero] <;> rfl
        case hs7_2 => kernel_rfl
        case hf7_2 => kernel_rfl
        case hr7_2 => kernel_rfl
        case hQ7_2 => exact fun _ _ _ h => h
        case hy7_2 => exact Or.inl ⟨by rfl, fun w hSw => by go_simp <;> (try with_reducible rfl)⟩
        simp only [Act.put, List.setIfInBounds_toArray, List.set_cons_zero, List.set_cons_succ]
        refine' wpAnyH_take (i := 8) ?hi8_2 ?hs8_2 ?hf8_2 ?hr8_2 ?hQ8_2 ?hy8_2 (by assumption) ?rest8_2
        case hi8_2 => simp only [List.getElem?_toArray, List.getElem?_cons_succ, List.getElem?_cons_zero] <;> rfl
        case hs8_2 => kernel_rfl
        case hf8_2 => kernel_rfl
        case hr8_2 => kernel_rfl
        case hQ8_2 => exact fun _ _ _ h => h
        case hy8_2 => exact Or.inl ⟨by rfl, fun w hSw => by go_simp <;> (try with_reducible rfl)⟩
        simp only [Act.put, List.setIfInBounds_toArray, List.set_cons_zero, List.set_cons_succ]
        refine wpAnyH_ready (rs := [9]) (by kernel_rfl) (by simp) ?_
        refine AllReadyH.cons rfl (fun K hK => ?_) AllReadyH.nil
        go_simp
        refine hK.out _ _ (cell_t e19 (Touch.setCell (p := ⟨rb, 23, none⟩) (Touch.refl (fun kk => kk = rb) w9) (fun _ => rfl) _) (show ¬ (w.heap.size = rb) by omega)) (fun hHeld => ?_)
        clear hK K
        refine wpAnyH_done (by kernel_rfl) ?_ _
        refine NoPanic.normal ?_
        go_wp2_with fail
        go_roundw
        case rel => exact ⟨k + 1, ov, _, by omega, by go_num, BL.set B9 23 _, fun _ => ((HOv.out hk0).touch HGr.out (fun kk e h => HNv.out hk0 kk e h)).touch (Touch.setCell (p := ⟨rb, 23, none⟩) (Touch.refl (fun kk => kk = rb) w9) (fun _ => rfl) _) (fun kk e h => by have := ((HOv.out hk0).lt kk e).1; omega), HO9.out.touch (Touch.setCell (p := ⟨rb, 23, none⟩) (Touch.refl (fun kk => kk = rb) w9) (fun _ => rfl) _) (fun kk e h => by have := (HO9.out.lt kk e).1; omega), fun _ kk e h => by { rcases HBl.out with q | q; { rw [q] at h; exact HNv.out hk0 kk e h }; { rw [q] at h; simp only [Option.some.injEq] at h; have := ((HOv.out hk0).lt kk e).2; omega } }, Touch.trans T7.out (Touch.setCell (p := ⟨rb, 23, none⟩) (HGr.out.mono (S' := fun kk => kk = rb ∨ av.ownBlock = some kk) (fun _ h _ => .inr h)) (fun _ => .inl rfl) _) (fun x h hx => h.elim id (fun e => by have h1 := (HAv.out.lt _ e).1; omega))⟩
        case measure => first | (simp [intOf]; done) | (simp [intOf]; omega)
      · obtain rfl : k = 0 := by omega
        obtain ⟨la, lc, hv⟩ := HLv.out.form
        subst hv
        go_wp2_with fail
        refine named_code (fun W8 hW8 => ?_)
        have T8 : Touch (fun kk => kk = rb) w7 W8 := by rw [hW8]; exact Touch.setCell (p := ⟨rb, 22, none⟩) (Touch.refl (fun kk => kk = rb) w7) (fun _ => rfl) _
        have BR8 : BL W8 rb 70 [.pointer (some ⟨ba, 0, none⟩), .pointer (some ⟨ba, 0, none⟩), .pointer (some ⟨bt, 0, none⟩), .int .i64 (y 0).f, .int .i64 (y 0).t, .int .i64 (y 0).e, .int .i64 (y 1).f, .int .i64 (y 1).t, .int .i64 (y 1).e, .int .i64 (y 2).f, .int .i64 (y 2).t, .int .i64 (y 2).e, .int .i64 (y 3).f, .int .i64 (y 3).t, .int .i64 (y 3).e, .int .i64 thr, .int .i64 tt.f, .int .i64 tt.t, .int .i64 tt.e, .int .i64 od.f, .int .i64 od.t, .int .i64 od.e, .slice la (G 0).length lc, av] := by rw [hW8]; exact BR7.set 22 _
        have z8 := T8.size
        have HAv8 := Lib.hid (HAv.out.touch T8 (fun kk e h => by have := (HAv.out.lt kk e).1; have : kk = rb := h; omega))
        have HLv8 := Lib.hid (HLv.out.touch T8 (fun kk e h => by have := (HLv.out.lt kk e).1; have : kk = rb := h; omega))
        have T78 := Lib.hid (Touch.trans T7.out T8 (fun _ e _ => e))
        have e18 := cell_t e1 T8 (show ¬ (w.heap.size = rb) by omega)
        have HNv8 := Lib.hid (show ∀ kk, (Value.slice la (G 0).length lc).ownBlock = some kk → ¬ av.ownBlock = some kk from fun kk e h => by have h1 := hlv6 kk e; have h2 := HAvB.out kk h; omega)
        clear hW8 BR7 HAv HLv T7 e1 r22 g22 r23 HNv
        have BR7 := BR8
        have HAv := HAv8
        have HLv := HLv8
        have T7 := T78
        have e1 := e18
        have HNv := HNv8
        have r23 := BR7.c 23 _ rfl
        clear BR8 HAv8 HLv8 T78 e18 HNv8
        refine wp_region_noPanic ?_
        refine wp_region_held_drew (S := (fun w' => w'.cell? ⟨w.heap.size, 0, none⟩ = some (.pointer (some ⟨rb, 0, none⟩)))) (by kernel_rfl) e1 (fun hHeld => ?_)
        refine' wpAnyH_take (i := 0) ?hi0_3 ?hs0_3 ?hf0_3 ?hr0_3 ?hQ0_3 ?hy0_3 (by assumption) ?rest0_3
        case hi0_3 => simp only [List.getElem?_toArray, List.getElem?_cons_zero] <;> rfl
        case hs0_3 => kernel_rfl
        case hf0_3 => kernel_rfl
        case hr0_3 => kernel_rfl
        case hQ0_3 => exact fun _ _ _ h => h
        case hy0_3 => exact Or.inl ⟨by rfl, fun w hSw => by have q1 := hSw; go_simp <;> (try with_reducible rfl)⟩
        simp only [Act.put, List.setIfInBounds_toArray, List.set_cons_zero, List.set_cons_succ]
        refine' wpAnyH_take (i := 1) ?hi1_3 ?hs1_3 ?hf1_3 ?hr1_3 ?hQ1_3 ?hy1_3 (by assumption) ?rest1_3
        case hi1_3 => simp only [List.getElem?_toArray, List.getElem?_cons_succ, List.getElem?_cons_zero] <;> rfl
        case hs1_3 => kernel_rfl
        case hf1_3 => kernel_rfl
        case hr1_3 => kernel_rfl
        case hQ1_3 => exact fun _ _ _ h => h
        case hy1_3 => exact Or.inl ⟨by rfl, fun w hSw => by have q1 := hSw; go_simp <;> (try with_reducible rfl)⟩
        simp only [Act.put, List.setIfInBounds_toArray, List.set_cons_zero, List.set_cons_succ]
        refine' wpAnyH_take (i := 2) ?hi2_3 ?hs2_3 ?hf2_3 ?hr2_3 ?hQ2_3 ?hy2_3 (by assumption) ?rest2_3
        case hi2_3 => simp only [List.getElem?_toArray, List.getElem?_cons_succ, List.getElem?_cons_zero] <;> rfl
        case hs2_3 => kernel_rfl
        case hf2_3 => kernel_rfl
        case hr2_3 => kernel_rfl
        case hQ2_3 => exact fun _ _ _ h => h
        case hy2_3 => exact Or.inl ⟨by rfl, fun w hSw => by go_simp <;> (try with_reducible rfl)⟩
        simp only [Act.put, List.setIfInBounds_toArray, List.set_cons_zero, List.set_cons_succ]
        refine' wpAnyH_take (i := 3) ?hi3_3 ?hs3_3 ?hf3_3 ?hr3_3 ?hQ3_3 ?hy3_3 (by assumption) ?rest3_3
        case hi3_3 => simp only [List.getElem?_toArray, List.getElem?_cons_succ, List.getElem?_cons_zero] <;> rfl
        case hs3_3 => kernel_rfl
        case hf3_3 => kernel_rfl
        case hr3_3 => kernel_rfl
        case hQ3_3 => exact fun _ _ _ h => h
        case hy3_3 => exact Or.inl ⟨by rfl, fun w hSw => by go_simp <;> (try with_reducible rfl)⟩
        simp only [Act.put, List.setIfInBounds_toArray, List.set_cons_zero, List.set_cons_succ]
        refine' wpAnyH_take (i := 5) ?hi5_3 ?hs5_3 ?hf5_3 ?hr5_3 ?hQ5_3 ?hy5_3 (by assumption) ?rest5_3
        case hi5_3 => simp only [List.getElem?_toArray, List.getElem?_cons_succ, List.getElem?_cons_zero] <;> rfl
        case hs5_3 => kernel_rfl
        case hf5_3 => kernel_rfl
        case hr5_3 => kernel_rfl
        case hQ5_3 => exact fun _ _ _ h => h
        case hy5_3 => exact Or.inl ⟨by rfl, fun w hSw => by go_simp <;> (try with_reducible rfl)⟩
        simp only [Act.put, List.setIfInBounds_toArray, List.set_cons_zero, List.set_cons_succ]
        refine wpAnyH_ready (rs := [4]) (by kernel_rfl) (by simp) ?_
        refine AllReadyH.cons rfl (fun K hK => ?_) AllReadyH.nil
        go_simp
        refine hK.out _ _ hHeld (fun hHeld => ?_)
        clear hK K
        refine wpAnyH_ready (rs := [6]) (by kernel_rfl) (by simp) ?_
        refine AllReadyH.cons rfl (fun K hK => ?_) AllReadyH.nil
        rw [if_pos (show Region.wanted _ _ = true from rfl)]
        refine A5.wp_app_own (some 68) rfl (.tmp 66) (.tmp 67) rfl Wx.heap.size av (accG G 0) (HAv.out.touch ((Touch.refl (fun _ => False) W8).drew) (fun _ _ h => h)) rfl _ (.slice la (G 0).length lc) (G 0) (HLv.out.touch ((Touch.refl (fun _ => False) W8).drew) (fun _ _ h => h)) rfl (by have := HLen.out 0 hlt; omega) (show Wx.heap.size ≤ W8.heap.size by omega) ?_
        intro v9 w9 hown9 hgr9 hbl9
        have HGr := Lib.hid (show Touch (fun kk => av.ownBlock = some kk) W8 w9 from Touch.grown ((Touch.refl _ W8).drew) hgr9 (fun kk e _ => e))
        obtain ⟨ae, ce, hv9⟩ := hown9.form
        obtain ⟨ln, hln⟩ : ∃ ln, (accG G 0 ++ G 0).length = ln := ⟨_, rfl⟩
        rw [hln] at hv9
        clear hln
        subst hv9
        have HO9 := Lib.hid hown9
        have HBl := Lib.hid (show _ ∨ _ = some W8.heap.size from hbl9)
        clear hown9 hgr9 hbl9
        have B9 := BR7.touch HGr.out (fun e => by have := (HAv.out.lt _ e).1; omega)
        have c23 := B9.c 23 _ rfl
        have f23 := B9.fz 23
        have e19 := cell_t e1 HGr.out (fun e => by have h1 : av.ownBlock = some w.heap.size := e; have := (HAv.out.lt _ h1).1; omega)
        refine hK.out _ _ e19 (fun hHeld => ?_)
        clear hK K
        refine' wpAnyH_take (i := 7) ?hi7_3 ?hs7_3 ?hf7_3 ?hr7_3 ?hQ7_3 ?hy7_3 (by assumption) ?rest7_3
        case hi7_3 => simp only [List.getElem?_toArray, List.getElem?_cons_succ, List.getElem?_cons_zero] <;> rfl
        case hs7_3 => kernel_rfl
        case hf7_3 => kernel_rfl
        case hr7_3 => kernel_rfl
        case hQ7_3 => exact fun _ _ _ h => h
        case hy7_3 => exact Or.inl ⟨by rfl, fun w hSw => by go_simp <;> (try with_reducible rfl)⟩
        simp only [Act.put, List.setIfInBounds_toArray, List.set_cons_zero, List.set_cons_succ]
        refine' wpAnyH_take (i := 8) ?hi8_3 ?hs8_3 ?hf8_3 ?hr8_3 ?hQ8_3 ?hy8_3 (by assumption) ?rest8_3
        case hi8_3 => simp only [List.getElem?_toArray, List.getElem?_cons_succ, List.getElem?_cons_zero] <;> rfl
        case hs8_3 => kernel_rfl
        case hf8_3 => kernel_rfl
        case hr8_3 => kernel_rfl
        case hQ8_3 => exact fun _ _ _ h => h
        case hy8_3 => exact Or.inl ⟨by rfl, fun w hSw => by go_simp <;> (try with_reducible rfl)⟩
        simp only [Act.put, List.setIfInBounds_toArray, List.set_cons_zero, List.set_cons_succ]
        refine wpAnyH_ready (rs := [9]) (by kernel_rfl) (by simp) ?_
        refine AllReadyH.cons rfl (fun K hK => ?_) AllReadyH.nil
        go_simp
        refine hK.out _ _ (cell_t e19 (Touch.setCell (p := ⟨rb, 23, none⟩) (Touch.refl (fun kk => kk = rb) w9) (fun _ => rfl) _) (show ¬ (w.heap.size = rb) by omega)) (fun hHeld => ?_)
        clear hK K
        refine wpAnyH_done (by kernel_rfl) ?_ _
        refine NoPanic.normal ?_
        go_wp2_with fail
        go_roundw
        case rel => exact ⟨0 + 1, .slice la (G 0).length lc, _, by omega, by go_num, BL.set B9 23 _, fun _ => ((HLv.out.mono (by omega)).touch HGr.out (fun kk e h => HNv.out kk e h)).touch (Touch.setCell (p := ⟨rb, 23, none⟩) (Touch.refl (fun kk => kk = rb) w9) (fun _ => rfl) _) (fun kk e h => by have := (HLv.out.lt kk e).1; omega), HO9.out.touch (Touch.setCell (p := ⟨rb, 23, none⟩) (Touch.refl (fun kk => kk = rb) w9) (fun _ => rfl) _) (fun kk e h => by have := (HO9.out.lt kk e).1; omega), fun _ kk e h => by { rcases HBl.out with q | q; { rw [q] at h; exact HNv.out kk e h }; { rw [q] at h; simp only [Option.some.injEq] at h; have := (HLv.out.lt kk e).2; omega } }, Touch.trans T7.out (Touch.setCell (p := ⟨rb, 23, none⟩) (HGr.out.mono (S' := fun kk => kk = rb ∨ av.ownBlock = some kk) (fun _ h _ => .inr h)) (fun _ => .inl rfl) _) (fun x h hx => h.elim id (fun e => by have h1 := (HAv.out.lt _ e).1; omega))⟩
        case measure => first | (simp [intOf]; done) | (simp [intOf]; omega)
    · obtain rfl : k = 3 := by omega
      have hacc : accG G 3 = G 0 ++ (G 1 ++ G 2) := by simp [accG, List.append_assoc]
      have hOv3 := HOv.out (by omega)
      have hAv3 := HAv.out
      rw [hacc] at hAv3
      have hlq : (G 0 ++ (G 1 ++ G 2)).length ≤ 20000 := HLenA.out
      have HAL := Lib.hid (show ∀ a, a ∈ G 0 ++ (G 1 ++ G 2) ↔ inG G a from fun a => ⟨fun h => (List.mem_append.1 h).elim (fun h => HW.inG_of (.inr h)) (fun h => HW.inG_of (.inl h)), fun h => List.mem_append.2 ((HW.of_inG h).elim .inr .inl)⟩)
      have hin1 := fun a (ha : inG G a) => H.in1 ha
      generalize hAL : G 0 ++ (G 1 ++ G 2) = AL at *
      obtain ⟨aa, ac, hv⟩ := hAv3.form
      subst hv
      obtain ⟨oa, oc, hv⟩ := hOv3.form
      subst hv
      have hrd := hAv3.rd
      have hrdo := hOv3.rd
      obtain ⟨q, hq⟩ : ∃ q, AL.length = q := ⟨_, rfl⟩
      obtain ⟨q0, hq0⟩ : ∃ q0, (G 0).length = q0 := ⟨_, rfl⟩
      rw [hq] at hAv3 hrd hlq
      rw [hq0] at hOv3 hrdo
      have hq0l : q0 ≤ 4096 := by omega
      obtain ⟨hrd1, hrd2⟩ := hrd
      obtain ⟨hro1, hro2⟩ := hrdo
      have Mo : SetIs wo (w.heap.size + 1 + 1) (putB (fun _ => false) 0) 1 1 := (HM4.out.touch HKx.out (fun h => h)).touch T1 (show ¬ (w.heap.size + 1 + 1 = rb) by omega)
      have BVo := BL.touch (HBV4.out.keep HKx.out) T1 (show ¬ (w3.heap.size = rb) by omega)
      have B5o := BL.touch (HB54.out.keep HKx.out) T1 (show ¬ (w.heap.size + 1 = rb) by omega)
      have To : Touch (fun k => k = rb) w wo := Touch.trans HTx.out T1 (fun _ e _ => e)
      rw [hq0, hq] at hBR
      have e1 := HB3.out.c 0 _ rfl
      have r23 := hBR.c 23 _ rfl
      have HOv3 := Lib.hid hOv3
      have HAv3 := Lib.hid hAv3
      have HRd := Lib.hid hrd1
      have HLo := Lib.hid hrd2
      have HMo := Lib.hid Mo
      have HAL2 := Lib.hid hAL
      clear hOv3 hAv3 hrd1 hrd2 hacc HOv HAv HNv hlt HLenA hl0 hl1 hl2 hAL Mo
      go_wp2_with fail
      go_loopw [77] (fun i wr => ∃ (j c cnt : Nat) (M : Int → Bool), j ≤ q ∧ i = .int .i64 j ∧ SetIs wr (w.heap.size + 1 + 1) M c cnt ∧ cnt ≤ j + 1 ∧ (∀ x, M x = true ↔ x = 0 ∨ x ∈ AL.take j) ∧ Only (w.heap.size + 1 + 1) wo wr) (fun i _ => q - (intOf i).toNat)
      case atStart => exact ⟨0, 1, 1, _, by omega, rfl, HMo.out, by omega, fun x => by unfold putB; by_cases e : x = 0 <;> simp [e], Only.refl _ _⟩
      case round =>
        obtain ⟨wi, rfl⟩ : ∃ wi : World, wi = wr := ⟨_, rfl⟩
        obtain ⟨j, c, cnt, M, hj, rfl, hS, hcn, hmem, o1⟩ := hrel
        have HMm := Lib.hid hmem
        have cv := (BVo.touch o1 (show ¬ (w3.heap.size = w.heap.size + 1 + 1) by omega)).c 0 _ rfl
        clear hmem
        by_cases hlt : j < q
        · obtain ⟨b2, off2, rfl, d3⟩ := (HRd.out.keepS o1 (fun b off e hb => by have := (HLo.out b off e).1; have : b = w.heap.size + 1 + 1 := hb; omega)).one hlt
          have d4 : wi.cell? ⟨b2, off2 + j, none⟩ = some (.int .i64 (AL.getD j 0)) := d3
          have hjA : AL[j]? = some (AL.getD j 0) := by rw [List.getD_eq_getElem?_getD, List.getElem?_eq_getElem (by omega)]; rfl
          have hx := hin1 _ ((HAL.out _).1 (List.mem_of_getElem? hjA))
          have HT := Lib.hid (show AL.take (j + 1) = AL.take j ++ [AL.getD j 0] by rw [List.take_add_one, hjA]; rfl)
          clear hjA
          generalize AL.getD j 0 = x at *
          obtain ⟨w4, hput, hS4, hO4⟩ := hS.put (x := x) ⟨by omega, by omega⟩ (by omega)
          have hjI : (j : Int) < q := by omega
          clear d3 hx
          go_wp2_with fail
          go_roundw
          case rel => exact ⟨j + 1, _, _, _, by omega, by go_num, hS4, by omega, fun h => by
            rw [HT.out]
            unfold putB
            by_cases e : h = x
            · simp [e]
            · rw [if_neg e, HMm.out h]; simp [e], o1.trans_ hO4⟩
          case measure => simp [intOf]; omega
        · obtain rfl : j = q := by omega
          have HMM := Lib.hid (show ∀ x, (x = 0 ∨ inG G x) → M x = true from fun x hx => by
            rw [HMm.out x, ← hq, List.take_length, HAL.out x]; exact hx)
          have Tw : Touch (fun k => k = rb) w wi := Touch.trans To o1 (fun x e hx => by omega)
          have zi := o1.size
          have e1 := cell_only e1 o1 (show w.heap.size ≠ w.heap.size + 1 + 1 by omega)
          have hBRi := hBR.touch o1 (show ¬ (rb = w.heap.size + 1 + 1) by omega)
          have B5i := B5o.touch o1 (show ¬ (w.heap.size + 1 = w.heap.size + 1 + 1) by omega)
          have Si := S0.aside (Tw.mono (fun _ h _ => .inr h)) HN.out HNe.out
          have HrA := Lib.hid (HRd.out.keepS o1 (fun b off e hb => by have := (HLo.out b off e).1; have : b = w.heap.size + 1 + 1 := hb; omega))
          have HrO := Lib.hid (hro1.keepS o1 (fun b off e hb => by have := (hro2 b off e).1; have : b = w.heap.size + 1 + 1 := hb; omega))
          have HOvi := Lib.hid (show OwnInts wi w.heap.size (.slice oa q0 oc) (G 0) from (HOv3.out.touch o1 (fun kk e h => by have := (HOv3.out.lt kk e).1; have : kk = w.heap.size + 1 + 1 := h; omega)).mono (by omega))
          have HAvi := Lib.hid (show OwnInts wi w.heap.size (.slice aa j ac) AL from (HAv3.out.touch o1 (fun kk e h => by have := (HAv3.out.lt kk e).1; have : kk = w.heap.size + 1 + 1 := h; omega)).mono (by omega))
          have HSi := Lib.hid hS
          have HTw := Lib.hid Tw
          have HRa := Lib.hid (hra.keepS Tw (fun b off e h => hrb b off e h))
          clear HMm o1 To hS hBR B5o BVo r23
          go_wp2_with fail
          refine named (fun Wa hWa => ?_)
          have ka : Keeps wi Wa := by rw [hWa]; exact (Touch.refl _ _).alloc _
          have bfn : BL Wa wi.heap.size 50 [.func (.func 51) #[] #[.pointer (some ⟨w3.heap.size, 0, none⟩)]] := by rw [hWa]; exact BL.new1 _ _ _ [.func (.func 51) #[] #[.pointer (some ⟨w3.heap.size, 0, none⟩)]] _ rfl rfl
          clear hWa
          have cva := cell_keep cv ka
          have HSa := Lib.hid (HSi.out.keep ka)
          refine Calls.mono (has_lf w3.heap.size ra rn rc Rt Wa (HRa.out.keep ka) (by omega) (fun i => M (Rt i) = false) (fun i hi w' k => lost_any (HSa.out.keep k) (cell_keep cva k) (by rcases hrt i hi with e | e; { rw [e]; exact ⟨by omega, by omega⟩ }; { have := hin1 _ e; exact ⟨by omega, by omega⟩ }))) ?_
          intro e wb hb
          obtain ⟨rfl, kb⟩ := tells_no hb (fun ⟨i, hi, h⟩ => by rw [HMM.out _ (hrt i hi)] at h; cases h)
          have kib := Keeps.trans ka kb
          have e1b := cell_keep e1 kib
          have cvb := cell_keep cv kib
          have r23b := (hBRi.keep kib).c 23 _ rfl
          have r1b := (hBRi.keep kib).c 1 _ rfl
          have r2b := (hBRi.keep kib).c 2 _ rfl
          have c4b := (bfn.keep kb).c 0 _ rfl
          have HSb := Lib.hid (HSi.out.keep kib)
          have HSt := Lib.hid (Si.keep kib)
          clear hb
          have HC2 := Lib.hid (show Calls Try.prog 52 #[.slice aa j ac, .func (.func 53) #[] #[.pointer (some ⟨w.heap.size, 0, none⟩), .pointer (some ⟨wi.heap.size, 0, none⟩)]] wb fun e w' => e = .returned (.bool false) ∧ Keeps wb w' from
            (has_rf w.heap.size wi.heap.size aa j ac _ wb (HrA.out.keep kib) (by omega) (fun i => ∃ i2 : Nat, (i2 : Int) < (objP (atT n f m C (AL.getD i 0))).1.refs ∧ M (f (AL.getD i 0 + 2 + i2).toNat) = false) (fun i hi w' k => by
              have hjA : AL[i]? = some (AL.getD i 0) := by rw [List.getD_eq_getElem?_getD, List.getElem?_eq_getElem (by omega)]; rfl
              have hin := (HAL.out _).1 (List.mem_of_getElem? hjA)
              have h1 := hin1 _ hin
              refine reflost_any (HSt.out.keep k) (cell_keep r1b k) (cell_keep r2b k) (cell_keep e1b k) (cell_keep c4b k) (HSb.out.keep k) (cell_keep cvb k) h1.2.2.1 (fun i2 hi2 => ?_)
              rw [h1.2.2.2] at hi2
              rcases H.ref _ hin i2 hi2 with e | e
              · rw [e]; exact ⟨by omega, by omega⟩
              · have := hin1 _ e; exact ⟨by omega, by omega⟩)).mono (fun e w' hh => tells_no hh (fun ⟨i, hi, i2, hi2, h⟩ => by
                have hjA : AL[i]? = some (AL.getD i 0) := by rw [List.getD_eq_getElem?_getD, List.getElem?_eq_getElem (by omega)]; rfl
                have hin := (HAL.out _).1 (List.mem_of_getElem? hjA)
                rw [(hin1 _ hin).2.2.2] at hi2
                rw [HMM.out _ (H.ref _ hin i2 hi2)] at h
                cases h)))
          go_wp2_with fail
          refine Calls.mono HC2.out ?_
          rintro e wc ⟨rfl, kc⟩
          have kic := Keeps.trans kib kc
          have Bc := hBRi.keep kic
          have ec := cell_keep e1 kic
          have hb0 := (rightB_iff _).1 (HR3.out 0 (by omega))
          have hb1 := (rightB_iff _).1 (HR3.out 1 (by omega))
          have hb2 := (rightB_iff _).1 (HR3.out 2 (by omega))
          have gs : IntKind.i64.wrap ((y 1).t - (y 1).f + ((y 2).t - (y 2).f)) = (y 1).t - (y 1).f + ((y 2).t - (y 2).f) := IntWalk.i64_in _ ⟨by omega, by omega⟩
          have HKS := Lib.hid (show ∀ w', Keeps wc w' → (w'.cell? ⟨w.heap.size, 0, none⟩ = some (.pointer (some ⟨rb, 0, none⟩)) ∧ w'.cell? ⟨rb, 3, none⟩ = some (.int .i64 (y 0).f) ∧ w'.cell? ⟨rb, 4, none⟩ = some (.int .i64 (y 0).t) ∧ w'.cell? ⟨rb, 5, none⟩ = some (.int .i64 (y 0).e) ∧ w'.cell? ⟨rb, 6, none⟩ = some (.int .i64 (y 1).f) ∧ w'.cell? ⟨rb, 7, none⟩ = some (.int .i64 (y 1).t) ∧ w'.cell? ⟨rb, 8, none⟩ = some (.int .i64 (y 1).e) ∧ w'.cell? ⟨rb, 9, none⟩ = some (.int .i64 (y 2).f) ∧ w'.cell? ⟨rb, 10, none⟩ = some (.int .i64 (y 2).t) ∧ w'.cell? ⟨rb, 11, none⟩ = some (.int .i64 (y 2).e) ∧ Keeps wc w') from fun w' k => ⟨cell_keep ec k, cell_keep (Bc.c 3 _ rfl) k, cell_keep (Bc.c 4 _ rfl) k, cell_keep (Bc.c 5 _ rfl) k, cell_keep (Bc.c 6 _ rfl) k, cell_keep (Bc.c 7 _ rfl) k, cell_keep (Bc.c 8 _ rfl) k, cell_keep (Bc.c 9 _ rfl) k, cell_keep (Bc.c 10 _ rfl) k, cell_keep (Bc.c 11 _ rfl) k, k⟩)
          have HM0 := Lib.hid (show ∀ w', (w'.cell? ⟨w.heap.size, 0, none⟩ = some (.pointer (some ⟨rb, 0, none⟩)) ∧ w'.cell? ⟨rb, 3, none⟩ = some (.int .i64 (y 0).f) ∧ w'.cell? ⟨rb, 4, none⟩ = some (.int .i64 (y 0).t) ∧ w'.cell? ⟨rb, 5, none⟩ = some (.int .i64 (y 0).e) ∧ w'.cell? ⟨rb, 6, none⟩ = some (.int .i64 (y 1).f) ∧ w'.cell? ⟨rb, 7, none⟩ = some (.int .i64 (y 1).t) ∧ w'.cell? ⟨rb, 8, none⟩ = some (.int .i64 (y 1).e) ∧ w'.cell? ⟨rb, 9, none⟩ = some (.int .i64 (y 2).f) ∧ w'.cell? ⟨rb, 10, none⟩ = some (.int .i64 (y 2).t) ∧ w'.cell? ⟨rb, 11, none⟩ = some (.int .i64 (y 2).e) ∧ Keeps wc w') → Calls Try.prog 50 #[.agg #[.int .i64 (y 0).f, .int .i64 (y 0).t, .int .i64 (y 0).e]] w' fun e w2 => e = .returned (.int .i64 ((y 0).e - (y 0).t)) ∧ (w2.cell? ⟨w.heap.size, 0, none⟩ = some (.pointer (some ⟨rb, 0, none⟩)) ∧ w2.cell? ⟨rb, 3, none⟩ = some (.int .i64 (y 0).f) ∧ w2.cell? ⟨rb, 4, none⟩ = some (.int .i64 (y 0).t) ∧ w2.cell? ⟨rb, 5, none⟩ = some (.int .i64 (y 0).e) ∧ w2.cell? ⟨rb, 6, none⟩ = some (.int .i64 (y 1).f) ∧ w2.cell? ⟨rb, 7, none⟩ = some (.int .i64 (y 1).t) ∧ w2.cell? ⟨rb, 8, none⟩ = some (.int .i64 (y 1).e) ∧ w2.cell? ⟨rb, 9, none⟩ = some (.int .i64 (y 2).f) ∧ w2.cell? ⟨rb, 10, none⟩ = some (.int .i64 (y 2).t) ∧ w2.cell? ⟨rb, 11, none⟩ = some (.int .i64 (y 2).e) ∧ Keeps wc w2) from fun w' k => (room_any (y 0) w' (HR3.out 0 (by omega))).mono (fun e w2 hh => ⟨hh.1, HKS.out w2 (Keeps.trans k.2.2.2.2.2.2.2.2.2.2 hh.2)⟩))
          have HM1 := Lib.hid (show ∀ w', (w'.cell? ⟨w.heap.size, 0, none⟩ = some (.pointer (some ⟨rb, 0, none⟩)) ∧ w'.cell? ⟨rb, 3, none⟩ = some (.int .i64 (y 0).f) ∧ w'.cell? ⟨rb, 4, none⟩ = some (.int .i64 (y 0).t) ∧ w'.cell? ⟨rb, 5, none⟩ = some (.int .i64 (y 0).e) ∧ w'.cell? ⟨rb, 6, none⟩ = some (.int .i64 (y 1).f) ∧ w'.cell? ⟨rb, 7, none⟩ = some (.int .i64 (y 1).t) ∧ w'.cell? ⟨rb, 8, none⟩ = some (.int .i64 (y 1).e) ∧ w'.cell? ⟨rb, 9, none⟩ = some (.int .i64 (y 2).f) ∧ w'.cell? ⟨rb, 10, none⟩ = some (.int .i64 (y 2).t) ∧ w'.cell? ⟨rb, 11, none⟩ = some (.int .i64 (y 2).e) ∧ Keeps wc w') → Calls Try.prog 8 #[.agg #[.int .i64 (y 1).f, .int .i64 (y 1).t, .int .i64 (y 1).e]] w' fun e w2 => e = .returned (.int .i64 ((y 1).t - (y 1).f)) ∧ (w2.cell? ⟨w.heap.size, 0, none⟩ = some (.pointer (some ⟨rb, 0, none⟩)) ∧ w2.cell? ⟨rb, 3, none⟩ = some (.int .i64 (y 0).f) ∧ w2.cell? ⟨rb, 4, none⟩ = some (.int .i64 (y 0).t) ∧ w2.cell? ⟨rb, 5, none⟩ = some (.int .i64 (y 0).e) ∧ w2.cell? ⟨rb, 6, none⟩ = some (.int .i64 (y 1).f) ∧ w2.cell? ⟨rb, 7, none⟩ = some (.int .i64 (y 1).t) ∧ w2.cell? ⟨rb, 8, none⟩ = some (.int .i64 (y 1).e) ∧ w2.cell? ⟨rb, 9, none⟩ = some (.int .i64 (y 2).f) ∧ w2.cell? ⟨rb, 10, none⟩ = some (.int .i64 (y 2).t) ∧ w2.cell? ⟨rb, 11, none⟩ = some (.int .i64 (y 2).e) ∧ Keeps wc w2) from fun w' k => (used_any (y 1) w' (HR3.out 1 (by omega))).mono (fun e w2 hh => ⟨hh.1, HKS.out w2 (Keeps.trans k.2.2.2.2.2.2.2.2.2.2 hh.2)⟩))
          have HM2 := Lib.hid (show ∀ w', (w'.cell? ⟨w.heap.size, 0, none⟩ = some (.pointer (some ⟨rb, 0, none⟩)) ∧ w'.cell? ⟨rb, 3, none⟩ = some (.int .i64 (y 0).f) ∧ w'.cell? ⟨rb, 4, none⟩ = some (.int .i64 (y 0).t) ∧ w'.cell? ⟨rb, 5, none⟩ = some (.int .i64 (y 0).e) ∧ w'.cell? ⟨rb, 6, none⟩ = some (.int .i64 (y 1).f) ∧ w'.cell? ⟨rb, 7, none⟩ = some (.int .i64 (y 1).t) ∧ w'.cell? ⟨rb, 8, none⟩ = some (.int .i64 (y 1).e) ∧ w'.cell? ⟨rb, 9, none⟩ = some (.int .i64 (y 2).f) ∧ w'.cell? ⟨rb, 10, none⟩ = some (.int .i64 (y 2).t) ∧ w'.cell? ⟨rb, 11, none⟩ = some (.int .i64 (y 2).e) ∧ Keeps wc w') → Calls Try.prog 8 #[.agg #[.int .i64 (y 2).f, .int .i64 (y 2).t, .int .i64 (y 2).e]] w' fun e w2 => e = .returned (.int .i64 ((y 2).t - (y 2).f)) ∧ (w2.cell? ⟨w.heap.size, 0, none⟩ = some (.pointer (some ⟨rb, 0, none⟩)) ∧ w2.cell? ⟨rb, 3, none⟩ = some (.int .i64 (y 0).f) ∧ w2.cell? ⟨rb, 4, none⟩ = some (.int .i64 (y 0).t) ∧ w2.cell? ⟨rb, 5, none⟩ = some (.int .i64 (y 0).e) ∧ w2.cell? ⟨rb, 6, none⟩ = some (.int .i64 (y 1).f) ∧ w2.cell? ⟨rb, 7, none⟩ = some (.int .i64 (y 1).t) ∧ w2.cell? ⟨rb, 8, none⟩ = some (.int .i64 (y 1).e) ∧ w2.cell? ⟨rb, 9, none⟩ = some (.int .i64 (y 2).f) ∧ w2.cell? ⟨rb, 10, none⟩ = some (.int .i64 (y 2).t) ∧ w2.cell? ⟨rb, 11, none⟩ = some (.int .i64 (y 2).e) ∧ Keeps wc w2) from fun w' k => (used_any (y 2) w' (HR3.out 2 (by omega))).mono (fun e w2 hh => ⟨hh.1, HKS.out w2 (Keeps.trans k.2.2.2.2.2.2.2.2.2.2 hh.2)⟩))
          have HEnd := Lib.hid (show ∀ w', Keeps wc w' → Rn w' ba bw n f bt A m cap C rb y thr tt od (.slice oa q0 oc) (.slice aa j ac) ∧ OwnInts w' w.heap.size (.slice oa q0 oc) (G 0) ∧ OwnInts w' w.heap.size (.slice aa j ac) (G 0 ++ (G 1 ++ G 2)) ∧ Touch (fun k => k = rb) w w' from fun w' k =>
            ⟨⟨(Si.keep kic).keep k, Bc.keep k, HNe.out⟩, (HOvi.out.keep kic).keep k, by rw [HAL2.out]; exact (HAvi.out.keep kic).keep k, Touch.trans (Touch.trans HTw.out kic (fun _ e _ => e.elim)) k (fun _ e _ => e.elim)⟩)
          have hYc : YgC wc rb (y 1) (y 2) := ⟨Bc.c 6 _ rfl, Bc.c 7 _ rfl, Bc.c 8 _ rfl, Bc.c 9 _ rfl, Bc.c 10 _ rfl, Bc.c 11 _ rfl⟩
          have HC3 := Lib.hid (show ∀ w', Keeps wc w' → Calls Try.prog 52 #[.slice oa q0 oc, .func (.func 55) #[] #[.pointer (some ⟨w.heap.size, 0, none⟩), .pointer (some ⟨w.heap.size + 1, 0, none⟩)]] w' fun e w2 => e = .returned (.bool false) ∧ Keeps w' w2 from fun w' k =>
            (has_cf w.heap.size (w.heap.size + 1) oa q0 oc _ w' ((HrO.out.keep kic).keep k) (by omega) (fun i => LeadsTo n m C f (ygB (y 1) (y 2)) ((G 0).getD i 0) ∧ D (cardN ((G 0).getD i 0)) = false) (fun i hi w2 k2 => by
              have hjA : (G 0)[i]? = some ((G 0).getD i 0) := by rw [List.getD_eq_getElem?_getD, List.getElem?_eq_getElem (by omega)]; rfl
              have hm0 := List.mem_of_getElem? hjA
              have h1 := hin1 _ ⟨0, by omega, hm0⟩
              have h2 := H.obj (show 0 < 3 by omega) hm0
              have h3 := H.bd 0 (by omega)
              have kk := Keeps.trans k k2
              exact clean_any ((Si.keep kic).keep kk) (cell_keep (Bc.c 1 _ rfl) kk) (cell_keep (Bc.c 2 _ rfl) kk) (y 1) (y 2) (hYc.keep kk) (cell_keep ec kk) (cell_keep ((B5i.keep kic).c 0 _ rfl) kk) (((hD.touch HTw.out hd1 hd2 hd3).keep kic).keep kk) h1.2.2.1 h1.1 (by omega))).mono (fun e w2 hh => tells_no hh (fun ⟨i, hi, h5, h6⟩ => by
                have hjA : (G 0)[i]? = some ((G 0).getD i 0) := by rw [List.getD_eq_getElem?_getD, List.getElem?_eq_getElem (by omega)]; rfl
                rw [hdirty _ (List.mem_of_getElem? hjA) h5] at h6
                cases h6)))
          have o22 := Bc.c 22 _ rfl
          have hE0 : (y 0).e - (y 0).t < (y 1).t - (y 1).f + ((y 2).t - (y 2).f) ↔ (y 0).e - (y 0).t < usedY y := Iff.rfl
          have HE0 := Lib.hid hE0
          have C3 := Lib.hid (show ∀ w', Keeps wc w' → w'.cell? ⟨rb, 22, none⟩ = some (.slice oa q0 oc) ∧ w'.cell? ⟨w.heap.size, 0, none⟩ = some (.pointer (some ⟨rb, 0, none⟩)) from fun w' k => ⟨cell_keep o22 k, cell_keep ec k⟩)
          clear HC2 ka kb kib kc kic hBRi B5i Si e1 cv cva e1b cvb r23b r1b r2b c4b bfn hb0 hb1 hb2 hYc Bc o22 hE0 hro1 hro2
          by_cases hfull : (y 0).e - (y 0).t < (y 1).t - (y 1).f + ((y 2).t - (y 2).f)
          · have HF := Lib.hid hfull
            go_wp2_with fail
            go_region_held3 (fun w' => (w'.cell? ⟨w.heap.size, 0, none⟩ = some (.pointer (some ⟨rb, 0, none⟩)) ∧ w'.cell? ⟨rb, 3, none⟩ = some (.int .i64 (y 0).f) ∧ w'.cell? ⟨rb, 4, none⟩ = some (.int .i64 (y 0).t) ∧ w'.cell? ⟨rb, 5, none⟩ = some (.int .i64 (y 0).e) ∧ w'.cell? ⟨rb, 6, none⟩ = some (.int .i64 (y 1).f) ∧ w'.cell? ⟨rb, 7, none⟩ = some (.int .i64 (y 1).t) ∧ w'.cell? ⟨rb, 8, none⟩ = some (.int .i64 (y 1).e) ∧ w'.cell? ⟨rb, 9, none⟩ = some (.int .i64 (y 2).f) ∧ w'.cell? ⟨rb, 10, none⟩ = some (.int .i64 (y 2).t) ∧ w'.cell? ⟨rb, 11, none⟩ = some (.int .i64 (y 2).e) ∧ Keeps wc w'))
              (first | assumption | exact HKS.out _ ((Touch.refl _ wc).drew) | go_keep)
              (first | (with_reducible refine (HM0.out _ (by assumption)).mono ?_; rintro e w' ⟨rfl, hS⟩) | (with_reducible refine (HM1.out _ (by assumption)).mono ?_; rintro e w' ⟨rfl, hS⟩) | (with_reducible refine (HM2.out _ (by assumption)).mono ?_; rintro e w' ⟨rfl, hS⟩))
            all_goals (
              have hS := (by assumption : _ ∧ _ ∧ _ ∧ _ ∧ _ ∧ _ ∧ _ ∧ _ ∧ _ ∧ _ ∧ _)
              have kq := hS.2.2.2.2.2.2.2.2.2.2
              go_wp2_with fail
              go_ret
              exact ⟨_, _, by rw [if_pos (HE0.out.1 HF.out)]; rfl, HEnd.out _ kq⟩)
          · have hff : decide ((y 0).e - (y 0).t < (y 1).t - (y 1).f + ((y 2).t - (y 2).f)) = false := decide_eq_false hfull
            have HF := Lib.hid hfull
            clear hfull
            go_wp2_with fail
            go_region_held3 (fun w' => (w'.cell? ⟨w.heap.size, 0, none⟩ = some (.pointer (some ⟨rb, 0, none⟩)) ∧ w'.cell? ⟨rb, 3, none⟩ = some (.int .i64 (y 0).f) ∧ w'.cell? ⟨rb, 4, none⟩ = some (.int .i64 (y 0).t) ∧ w'.cell? ⟨rb, 5, none⟩ = some (.int .i64 (y 0).e) ∧ w'.cell? ⟨rb, 6, none⟩ = some (.int .i64 (y 1).f) ∧ w'.cell? ⟨rb, 7, none⟩ = some (.int .i64 (y 1).t) ∧ w'.cell? ⟨rb, 8, none⟩ = some (.int .i64 (y 1).e) ∧ w'.cell? ⟨rb, 9, none⟩ = some (.int .i64 (y 2).f) ∧ w'.cell? ⟨rb, 10, none⟩ = some (.int .i64 (y 2).t) ∧ w'.cell? ⟨rb, 11, none⟩ = some (.int .i64 (y 2).e) ∧ Keeps wc w'))
              (first | assumption | exact HKS.out _ ((Touch.refl _ wc).drew) | go_keep)
              (first | (with_reducible refine (HM0.out _ (by assumption)).mono ?_; rintro e w' ⟨rfl, hS⟩) | (with_reducible refine (HM1.out _ (by assumption)).mono ?_; rintro e w' ⟨rfl, hS⟩) | (with_reducible refine (HM2.out _ (by assumption)).mono ?_; rintro e w' ⟨rfl, hS⟩))
            all_goals (
              have hS := (by assumption : _ ∧ _ ∧ _ ∧ _ ∧ _ ∧ _ ∧ _ ∧ _ ∧ _ ∧ _ ∧ _)
              have kq := hS.2.2.2.2.2.2.2.2.2.2
              obtain ⟨o22, o1_⟩ := C3.out _ kq
              go_wp2_with fail
              refine Calls.mono (HC3.out _ kq) ?_
              rintro e w14 ⟨rfl, k14⟩
              go_wp2_with fail
              go_ret
              exact ⟨_, _, by rw [if_neg (fun h => by have h1 := HF.out; have h2 := HE0.out.2 h; omega)]; rfl, HEnd.out _ (Keeps.trans kq k14)⟩)
end

end Go.Proofs.Ytabfbgkablbeeaa
