/- The law HandlePlays: the walk. -/
import Derived.Test.YtnjjecojedlccaaHan6
import Derived.Test.YtnjjecojedlccaaHanKeeps
import Derived.Deep.DeepCutAuto
import Derived.Deep.CutBlock
namespace Go.Proofs.Ytnjjecojedlccaa
open Go.RowKit

/-- The two tables say the same. -/
def Sim (T R : Nat → Pl) : Prop := ∀ i, (T i).n = (R i).n ∧ (T i).on = (R i).on ∧ ((T i).on = true → (T i).x = (R i).x)
theorem Sim.hnd {T R : Nat → Pl} (h : Sim T R) (i : Nat) : hnd (T i) i = hnd (R i) i := by unfold Ytnjjecojedlccaa.hnd; rw [(h i).1]
theorem Sim.all {T R : Nat → Pl} (h : Sim T R) : allT T = allT R := by
  unfold allT allK
  congr 1
  funext i
  rw [h.hnd i, (h i).2.1]
theorem Sim.find {T R : Nat → Pl} (h : Sim T R) (k : Int) : findT T k = findT R k := by
  unfold findT
  rw [h.hnd, (h _).2.1]
theorem Sim.free {T R : Nat → Pl} (h : Sim T R) : ∀ k i, freeT T k i = freeT R k i
  | 0, _ => rfl
  | k + 1, i => by unfold freeT; rw [(h i).2.1, h.free k (i + 1)]
theorem Sim.newA {T R : Nat → Pl} (h : Sim T R) : newA T = newA R := by
  unfold Ytnjjecojedlccaa.newA
  rw [h.free]
  cases freeT R 64 0 with
  | none => rfl
  | some i => simp only [Ytnjjecojedlccaa.hnd, (h i).1]
theorem Sim.newE {T R : Nat → Pl} (h : Sim T R) : newE T = newE R := by unfold Ytnjjecojedlccaa.newE; rw [h.free]
theorem Sim.set {T R : Nat → Pl} (h : Sim T R) (i : Nat) {p q : Pl} (h1 : p.n = q.n) (h2 : p.on = q.on) (h3 : p.on = true → p.x = q.x) : Sim (setT T i p) (setT R i q) := by
  intro j
  unfold setT
  by_cases e : j = i
  · rw [if_pos e, if_pos e]; exact ⟨h1, h2, h3⟩
  · rw [if_neg e, if_neg e]; exact h j
theorem Sim.new {T R : Nat → Pl} (h : Sim T R) (x : Int) : Sim (newT T x) (newT R x) := by
  unfold newT
  rw [h.free]
  cases freeT R 64 0 with
  | none => exact h
  | some i => exact h.set i (by simp only [(h i).1]) rfl (fun _ => rfl)
theorem Sim.err {T R : Nat → Pl} (h : Sim T R) (k : Int) : errE T k = errE R k := by unfold errE; rw [h.find]
theorem Sim.setX {T R : Nat → Pl} (h : Sim T R) {k x : Int} {i : Nat} (e : findT R k = some i) : Sim (setX T k x) (setT R i { R i with x := x }) := by
  unfold Ytnjjecojedlccaa.setX
  rw [h.find, e]
  exact h.set i (h i).1 (h i).2.1 (fun _ => rfl)
theorem Sim.setX_none {T R : Nat → Pl} (h : Sim T R) {k x : Int} (e : findT R k = none) : Sim (Ytnjjecojedlccaa.setX T k x) R := by
  unfold Ytnjjecojedlccaa.setX
  rw [h.find, e]
  exact h
theorem Sim.drop {T R : Nat → Pl} (h : Sim T R) {k : Int} {i : Nat} (e : findT R k = some i) : Sim (dropT T k) (setT R i { R i with on := false }) := by
  unfold dropT
  rw [h.find, e]
  exact h.set i (h i).1 rfl (fun q => by cases q)
theorem Sim.drop_none {T R : Nat → Pl} (h : Sim T R) {k : Int} (e : findT R k = none) : Sim (dropT T k) R := by
  unfold dropT
  rw [h.find, e]
  exact h
/-- All that the reference's table stands for is changed, up to a place. -/
def rEach (R : Nat → Pl) (g : Int → Int) (j : Nat) : Nat → Pl := fun i => if i < j then { R i with x := g (R i).x } else R i
theorem Sim.each {T R : Nat → Pl} (h : Sim T R) (g : Int → Int) : Sim (eachJ T g 64) (rEach R g 64) := by
  intro i
  obtain ⟨a, b, c⟩ := h i
  unfold eachJ rEach
  by_cases h1 : i < 64
  · cases hon : (T i).on with
    | true => simp only [h1, if_true, and_self]; exact ⟨a, b, fun _ => by rw [c hon]⟩
    | false => simp only [h1, if_true]; rw [if_neg (by simp)]; exact ⟨a, b, fun q => by rw [hon] at q; cases q⟩
  · simp only [h1, and_false, if_false]; exact ⟨a, b, c⟩

/-- What Place tells, and what Get tells with it. -/
theorem place_cases {T R : Nat → Pl} {N : Int} (hV : WF R N) (hS : Sim T R) (h : Int) :
    (placeI R h = -1 ∧ errE T h = 6 ∧ getX T h = 0 ∧ findT R h = none) ∨ ∃ i : Nat, placeI R h = (i : Int) ∧ errE T h = 0 ∧ getX T h = (R i).x ∧ i < 64 ∧ findT R h = some i := by
  cases e : findT R h with
  | none => exact .inl ⟨by simp [placeI, e], by simp [errE, hS.find, e], by simp [getX, hS.find, e], rfl⟩
  | some i =>
    have hi := findT_lt e
    have hon := ((find_some_iff hV hi).1 e).1
    refine .inr ⟨i, by simp [placeI, e], by simp [errE, hS.find, e], ?_, hi, rfl⟩
    simp only [getX, hS.find, e]
    exact (hS i).2.2 (by rw [(hS i).2.1]; exact hon)
/-- What is checked of each handle. -/
theorem checked {T R : Nat → Pl} {N : Int} (hW : WF T N) (hV : WF R N) (hS : Sim T R) {m : Nat} (hm : m < (allT R).length) :
    ∃ (hh : Int) (j : Nat), j < 64 ∧ 1 ≤ hh ∧ hh ≤ 6400000 ∧ (allT R).getD m 0 = hh ∧
      (∀ bt w, Tab w bt T → Calls Try.prog 15 #[.pointer (some ⟨bt, 0, none⟩), .int .i64 hh] w fun e w' => e = .returned (.tuple #[.int .i64 (R j).x, .int .i64 0]) ∧ Keeps w w') ∧
      (∀ br w, RTab w br R → Calls Try.prog 20 #[.pointer (some ⟨br, 0, none⟩), .int .i64 hh] w fun e w' => e = .returned (.int .i64 (j : Int)) ∧ w = w') := by
  obtain ⟨y1, y2⟩ := allT_bd hV hm
  obtain ⟨j, q0, q1, q2⟩ := allT_mem.1 (List.getElem_mem hm)
  have q3 : (allT R).getD m 0 = Ytnjjecojedlccaa.hnd (R j) j := by rw [List.getD_eq_getElem?_getD, List.getElem?_eq_getElem hm]; exact q2
  have hf := (find_some_iff hV q0).2 ⟨q1, rfl⟩
  have g1 : getX T (Ytnjjecojedlccaa.hnd (R j) j) = (R j).x := by simp only [getX, hS.find, hf]; exact (hS j).2.2 (by rw [(hS j).2.1]; exact q1)
  have g2 : errE T (Ytnjjecojedlccaa.hnd (R j) j) = 0 := by simp only [errE, hS.find, hf]
  have g3 : placeI R (Ytnjjecojedlccaa.hnd (R j) j) = (j : Int) := by simp only [placeI, hf]
  rw [q3] at y1 y2
  refine ⟨_, j, q0, y1, y2, q3, fun bt w hT => ?_, fun br w hR => ?_⟩
  · rw [← g1, ← g2]; exact get_any bt T _ w _ hT hW (by omega) (by omega)
  · rw [← g3]; exact rplace_any br R _ w _ hR hV

theorem rEach_zero (R : Nat → Pl) (g : Int → Int) : rEach R g 0 = R := by funext i; simp [rEach]
theorem rEach_next (R : Nat → Pl) (g : Int → Int) (j : Nat) : setT (rEach R g j) j { rEach R g j j with x := g (R j).x } = rEach R g (j + 1) := by
  funext i
  unfold setT
  by_cases e : i = j
  · subst e; simp [rEach]
  · rw [if_neg e]
    unfold rEach
    by_cases h1 : i < j
    · have : i < j + 1 := by omega
      simp [h1, this]
    · have : ¬ i < j + 1 := by omega
      simp [h1, this]
theorem WF.rEach {T : Nat → Pl} {N : Int} (h : WF T N) (g : Int → Int) (j : Nat) : WF (rEach T g j) N := by
  refine ⟨h.1, fun i hi => ?_⟩
  obtain ⟨a, b, c⟩ := h.2 i hi
  unfold Ytnjjecojedlccaa.rEach
  split
  · exact ⟨a, b, c⟩
  · exact ⟨a, b, c⟩
theorem run_clos_p (ar : Array Value) (w : World) : (callFunc 22 ar).run Try.prog w = .ok (.enter 22 ar) w := by kernel_rfl
theorem clos_p (x xx : Int) (bo : Nat) (w : World) (h : w.cell? ⟨bo, 2, none⟩ = some (.int .i64 xx)) :
    Calls Try.prog 22 #[.int .i64 x, .pointer (some ⟨bo, 0, none⟩)] w fun e w' => e = .returned (.int .i64 (wrap64 (x + xx))) ∧ w = w' := by
  go_enter Try.func22, Try.ntmps22
  go_wp2_with fail
  go_ret
  exact ⟨rfl, rfl⟩
theorem each_plays (bt bo : Nat) (T : Nat → Pl) (xx : Int) (w : World) (N : Int) (hT : Tab w bt T) (hW : WF T N) (hc : w.cell? ⟨bo, 2, none⟩ = some (.int .i64 xx)) (hne : bo ≠ bt) :
    Calls Try.prog 16 #[.pointer (some ⟨bt, 0, none⟩), .func (.func 22) #[] #[.pointer (some ⟨bo, 0, none⟩)]] w fun e w' =>
      e = .returned (.tuple #[]) ∧ Tab w' bt (eachJ T (fun x => wrap64 (x + xx)) 64) ∧ Only bt w w' := by
  have hlt := World.block_lt_of_cell? w _ hc
  refine (each_any bt T w N hT hW 22 #[.pointer (some ⟨bo, 0, none⟩)] (fun x => wrap64 (x + xx)) (fun _ => False) (fun _ _ wx => wx.cell? ⟨bo, 2, none⟩ = some (.int .i64 xx)) run_clos_p
    (fun h => h) (fun k h => h.elim) (fun w1 k1 => ?_) (fun base l wx wy h ho => ?_) (fun base l x wx _ _ _ h => ?_)).mono ?_
  · rw [← hc]; exact World.cell?_of_block (k1.block bo hlt (fun h => h))
  · rw [← h]; exact World.cell?_of_block (ho.block bo (World.block_lt_of_cell? _ _ h) hne)
  · refine (clos_p x xx bo wx h).mono ?_
    rintro e w' ⟨he, rfl⟩
    exact ⟨he, h, Touch.refl _ _⟩
  · rintro e w' ⟨he, hT', _, k⟩
    exact ⟨he, hT', k.mono (fun x h _ => h.elim id (fun h => h.elim))⟩

def opC (o : OpR) (hh : Int) : Nat → Value := fun j => if j = 0 then .int .i64 o.kind else if j = 1 then .int .i64 hh else if j = 2 then .int .i64 o.x else .bool o.own

def PRel (w : World) (bt br : Nat) (k : Nat) (wr : World) : Prop := ∃ T R, Tab wr bt T ∧ RTab wr br R ∧ WF T k ∧ WF R k ∧ Sim T R ∧ Keeps w wr

theorem zero_rtab (w : World) : (zeroValue 52).run Try.prog w = .ok (.agg (Array.ofFn (n := 192) fun j => refF T0 j.val)) w := by kernel_rfl

set_option maxRecDepth 100000 in
set_option maxHeartbeats 4000000 in
theorem plays_walk (A : Option Addr) (len cap : Nat) (L : Nat → OpR) (w : World) (hr : Rd w A (len * 4) (opF L)) (hm : len ≤ 9223372036854775807) (hL : InOp L len) :
    Calls Try.prog 7 #[.slice A len cap] w fun e w' => e = .returned (.bool true) ∧ Keeps w w' := by
  have hz := zero_tab
  have hz2 := zero_rtab
  by_cases hlen : len ≤ 300
  · have hgt : decide ((300 : Int) < (len : Int)) = false := by simp; omega
    go_enter Try.func7, Try.ntmps7
    go_wp2_with fail
    refine (awake_any _).mono ?_
    rintro e w1 ⟨rfl, k1⟩
    generalize hZ : (Array.ofFn (n := 192) fun j => refF T0 j.val) = Z at hz2
    have HZ := Lib.hid hZ
    clear hZ
    go_wp2_with fail
    have hT1 := (tab_made w1 T0).alloc (.cells Z 52)
    have hR1 : RTab ((w1.alloc (.cells (tabArr T0) 29)).alloc (.cells Z 52)) (w1.heap.size + 1) T0 := by
      have := Blk.made (w1.alloc (.cells (tabArr T0) 29)) 192 52 (refF T0) Z (by rw [← HZ.out]; simp) (fun j h => by rw [← HZ.out]; simp [h])
      simpa using this
    have K1 := (k1.alloc (.cells (tabArr T0) 29)).alloc (.cells Z 52)
    have hbt : w.heap.size ≤ w1.heap.size := k1.size
    have hbr : w.heap.size ≤ w1.heap.size + 1 := by omega
    have hne : w1.heap.size ≠ w1.heap.size + 1 := by omega
    generalize w1.heap.size + 1 = br at *
    generalize w1.heap.size = bt at *
    go_loopw [36] (fun i wr => ∃ k : Nat, k ≤ len ∧ i = .int .i64 k ∧ PRel w bt br k wr) (fun i _ => len - (intOf i).toNat)
    case atStart => exact ⟨0, Nat.zero_le _, rfl, _, _, hT1, hR1, wf_T0 _ (by omega) (by omega), wf_T0 _ (by omega) (by omega), fun i => ⟨rfl, rfl, fun _ => rfl⟩, K1⟩
    case round =>
      obtain ⟨k, hk, rfl, T, R, hT, hR, hW, hV, hS, K⟩ := hrel
      clear hT1 hR1 K1 hz hz2 HZ
      by_cases hlt : k < len
      · obtain ⟨bl, off, rfl, c0, c1, c2, c3⟩ := (hr.keep K).op hlt
        obtain ⟨⟨b1, b2⟩, ⟨b3, b4⟩⟩ := hL k hlt
        clear hL hr
        generalize L k = o at *
        obtain ⟨kd, h0, xx, ow⟩ := o
        dsimp only at c0 c1 c2 c3 b1 b2 b3 b4
        go_wp2_with fail
        have hT2 := hT.alloc (.cells #[.int .i64 kd, .int .i64 h0, .int .i64 xx, .bool ow] 41)
        have hR2 := hR.alloc (.cells #[.int .i64 kd, .int .i64 h0, .int .i64 xx, .bool ow] 41)
        have K2 := K.alloc (.cells #[.int .i64 kd, .int .i64 h0, .int .i64 xx, .bool ow] 41)
        have hB2 : Blk (wr.alloc (.cells #[.int .i64 kd, .int .i64 h0, .int .i64 xx, .bool ow] 41)) wr.heap.size 41 4 (opC ⟨kd, h0, xx, ow⟩ h0) :=
          Blk.made wr 4 _ _ _ rfl (fun j hj => by rcases (by omega : j = 0 ∨ j = 1 ∨ j = 2 ∨ j = 3) with rfl | rfl | rfl | rfl <;> rfl)
        have hbo : w.heap.size ≤ wr.heap.size := K.size
        have hbt2 := hT.lt
        have hbr2 := hR.lt
        clear hT hR K c0 c1 c2 c3
        generalize wr.alloc (.cells #[.int .i64 kd, .int .i64 h0, .int .i64 xx, .bool ow] 41) = w2 at *
        have hneo : wr.heap.size ≠ bt := by omega
        have hneo2 : wr.heap.size ≠ br := by omega
        clear hbt2 hbr2
        generalize wr.heap.size = bo at *
        refine (rall_any _ R _ _ hR2 hV).mono ?_
        rintro e w3 ⟨ad, cp, rfl, hown, k3⟩
        obtain ⟨hrd, hlo⟩ := hown.rd
        have hl64 := allT_len R
        have HBD := Lib.hid (fun m (h : m < (allT R).length) => allT_bd hV h)
        have hT3 := Blk.touch hT2 k3 (fun h => h)
        have hR3 := Blk.touch hR2 k3 (fun h => h)
        have hB3 := Blk.touch hB2 k3 (fun h => h)
        have K3 := Keeps.trans K2 k3
        have c1 : w3.cell? ⟨bo, 1, none⟩ = some (.int .i64 h0) := hB3.cell (j := 1) (by omega)
        have c3 : w3.cell? ⟨bo, 3, none⟩ = some (.bool ow) := hB3.cell (j := 3) (by omega)
        have f1 := hB3.frozen 1
        clear hT2 hR2 hB2 K2 k3 hown hlo
        generalize hL : allT R = l at *
        have HLL := Lib.hid hL
        clear hL
        go_upto_region 9 with fail
        go_cut [56] (fun s wx => s = .bool (decide (ow = true ∧ 0 < l.length ∧ 0 ≤ h0)) ∧ w3 = wx)
        case first => as_aux_lemma =>
          cases ow with
          | false => go_wp2_with fail; go_meet; exact ⟨congrArg Value.bool (decide_eq_false (fun h => by cases h.1)).symm, rfl⟩
          | true =>
            by_cases q1 : 0 < l.length
            · by_cases q2 : 0 ≤ h0
              · go_wp2_with fail; go_meet; exact ⟨congrArg Value.bool (decide_eq_true ⟨rfl, q1, q2⟩).symm, rfl⟩
              · go_wp2_with fail; go_meet; exact ⟨congrArg Value.bool (decide_eq_false (fun h => q2 h.2.2)).symm, rfl⟩
            · have q1' : decide (0 < l.length) = false := decide_eq_false q1
              go_wp2_with fail; go_meet; exact ⟨congrArg Value.bool (decide_eq_false (fun h => q1 h.2.1)).symm, rfl⟩
        case rest => as_aux_lemma =>
          obtain ⟨rfl, rfl⟩ := hcut
          go_upto_if 56 with fail
          go_cut [] (fun wx => ∃ hh : Int, -9223372036854775808 ≤ hh ∧ hh ≤ 9223372036854775807 ∧ Blk wx bo 41 4 (opC ⟨kd, h0, xx, ow⟩ hh) ∧ Only bo w3 wx)
          case first => as_aux_lemma =>
            by_cases q : ow = true ∧ 0 < l.length ∧ 0 ≤ h0
            · rw [decide_eq_true q]
              obtain ⟨q0, q1, q2⟩ := q
              obtain ⟨jx, hjx, hjx'⟩ : ∃ jx : Nat, jx < l.length ∧ h0 % (l.length : Int) = (jx : Int) := ⟨(h0 % (l.length : Int)).toNat, by have := Int.emod_lt_of_pos h0 (b := (l.length : Int)) (by omega); omega, by have := Int.emod_nonneg h0 (b := (l.length : Int)) (by omega); omega⟩
              obtain ⟨bl2, off2, rfl, c7⟩ := hrd.one hjx
              have c8 : w3.cell? ⟨bl2, off2 + jx, none⟩ = some (.int .i64 (l.getD jx 0)) := c7
              obtain ⟨y1, y2⟩ := HBD.out jx hjx
              clear c7
              generalize l.getD jx 0 = y at *
              go_wp2_with fail
              go_meet
              refine ⟨y, by omega, by omega, (hB3.set 1 (.int .i64 y)).congr (fun j hj => ?_), (Only.refl bo w3).set _ _⟩
              unfold upd opC
              by_cases e : j = 1
              · subst e; simp
              · simp [e]
            · rw [decide_eq_false q]
              go_wp2_with fail
              go_meet
              exact ⟨h0, b1, b2, hB3, Only.refl bo w3⟩
          case rest => as_aux_lemma =>
            obtain ⟨hh, hh1, hh2, hB4, hO4⟩ := hcut
            have hT4 := hT3.touch hO4 (fun h => hneo h.symm)
            have hR4 := hR3.touch hO4 (fun h => hneo2 h.symm)
            have K4 := K3.new hO4 hbo
            clear hT3 hR3 hB3 hO4 K3 c1 c3 f1 hrd HBD HLL hl64
            generalize wc = w4 at *
            have d0 : w4.cell? ⟨bo, 0, none⟩ = some (.int .i64 kd) := hB4.cell (j := 0) (by omega)
            have d1 : w4.cell? ⟨bo, 1, none⟩ = some (.int .i64 hh) := hB4.cell (j := 1) (by omega)
            have d2 : w4.cell? ⟨bo, 2, none⟩ = some (.int .i64 xx) := hB4.cell (j := 2) (by omega)
            go_wp2_with fail
            refine (rplace_any _ R hh _ _ hR4 hV).mono ?_
            rintro e w5 ⟨rfl, rfl⟩
            have HP := Lib.hid (place_cases hV hS hh)
            go_upto_if 71 with fail
            go_cut [8, 9] (fun p s wx => p = .int .i64 (placeI R hh) ∧ s = .int .i64 (errE T hh) ∧ w4 = wx)
            case first => as_aux_lemma =>
              rcases HP.out with ⟨e1, e2, e3, _⟩ | ⟨i, e1, e2, e3, _⟩
              · rw [e1]
                go_wp2_with fail
                go_meet
                exact ⟨congrArg (Value.int .i64) e1.symm, congrArg (Value.int .i64) e2.symm, rfl⟩
              · rw [e1]
                have hi0 : ¬ (i : Int) < 0 := by omega
                go_wp2_with fail
                go_meet
                exact ⟨congrArg (Value.int .i64) e1.symm, congrArg (Value.int .i64) e2.symm, rfl⟩
            case rest => as_aux_lemma =>
              obtain ⟨rfl, rfl, rfl⟩ := hcut
              go_upto_block 2 with fail
              go_cut [8, 9, 10, 11, 12, 13, 14, 15, 16, 17] (fun _ _ s _ _ _ _ _ _ _ wx => s = .bool true ∧ ∃ T' R', Tab wx bt T' ∧ RTab wx br R' ∧ WF T' (k + 1) ∧ WF R' (k + 1) ∧ Sim T' R' ∧ Keeps w wx)
              case first => as_aux_lemma =>
                by_cases q1 : kd = 1
                · subst q1
                  go_wp2_with fail
                  refine (new_any _ T _ _ _ hT4 hW (by omega)).mono ?_
                  rintro e w5 ⟨rfl, hT5, k5⟩
                  rw [hS.newA, hS.newE]
                  have d2' : w5.cell? ⟨bo, 2, none⟩ = some (.int .i64 xx) := by rw [← d2]; exact World.cell?_of_block (k5.block bo hB4.lt hneo)
                  go_wp2_with fail
                  refine (rnew_any _ R _ _ _ (hR4.touch k5 (Ne.symm hne)) hV (by omega)).mono ?_
                  rintro e w6 ⟨rfl, hR6, k6⟩
                  go_wp2_with fail
                  go_meet
                  exact ⟨rfl, _, _, hT5.touch k6 hne, hR6, hW.new xx (by omega), hV.new xx (by omega), hS.new xx, (K4.new k5 hbt).new k6 hbr⟩
                have n1 : (kd == 1) = false := by simp [q1]
                by_cases q2 : kd = 2
                · subst q2
                  rcases HP.out with ⟨e1, e2, e3, _⟩ | ⟨i, e1, e2, e3, hi, _⟩
                  · rw [e1, e2]
                    have hge := get_any bt T hh w4 _ hT4 hW hh1 hh2
                    rw [e2, e3] at hge
                    have HG : Hid _ := hge
                    clear hge
                    go_wp2_with fail
                    refine Calls.mono HG.out ?_
                    rintro e w5 ⟨rfl, k5⟩
                    go_wp2_with fail
                    go_meet
                    exact ⟨rfl, T, R, Blk.touch hT4 k5 (fun h => h), Blk.touch hR4 k5 (fun h => h), hW.mono (by omega) (by omega), hV.mono (by omega) (by omega), hS, Keeps.trans K4 k5⟩
                  · rw [e1, e2]
                    have hge := get_any bt T hh w4 _ hT4 hW hh1 hh2
                    rw [e2, e3] at hge
                    have HG : Hid _ := hge
                    have hi0 : ¬ (i : Int) < 0 := by omega
                    have hi1 : (0 : Int) ≤ (i : Int) := by omega
                    clear hge
                    go_wp2_with fail
                    refine Calls.mono HG.out ?_
                    rintro e w5 ⟨rfl, k5⟩
                    have r2 := rtab2 (Blk.touch hR4 k5 (fun h => h)) hi
                    go_wp2_with fail
                    go_meet
                    exact ⟨rfl, T, R, Blk.touch hT4 k5 (fun h => h), Blk.touch hR4 k5 (fun h => h), hW.mono (by omega) (by omega), hV.mono (by omega) (by omega), hS, Keeps.trans K4 k5⟩
                have n2 : (kd == 2) = false := by simp [q2]
                by_cases q3 : kd = 3
                · subst q3
                  have hse := set_any bt T hh xx w4 _ hT4 hW hh1 hh2
                  rcases HP.out with ⟨e1, e2, _, e4⟩ | ⟨i, e1, e2, _, hi, e4⟩
                  · rw [e1, e2]
                    rw [e2] at hse
                    have HG : Hid _ := hse
                    have HS1 := Lib.hid (hS.setX_none (x := xx) e4)
                    clear hse
                    go_wp2_with fail
                    refine Calls.mono HG.out ?_
                    rintro e w5 ⟨rfl, hT5, k5⟩
                    go_wp2_with fail
                    go_meet
                    exact ⟨rfl, _, R, hT5, hR4.touch k5 (Ne.symm hne), (hW.setX hh xx).mono (by omega) (by omega), hV.mono (by omega) (by omega), HS1.out, K4.new k5 hbt⟩
                  · rw [e1, e2]
                    rw [e2] at hse
                    have HG : Hid _ := hse
                    have HS1 := Lib.hid (hS.setX (x := xx) e4)
                    have hi0 : ¬ (i : Int) < 0 := by omega
                    have hi1 : (0 : Int) ≤ (i : Int) := by omega
                    clear hse
                    go_wp2_with fail
                    refine Calls.mono HG.out ?_
                    rintro e w5 ⟨rfl, hT5, k5⟩
                    have d2' : w5.cell? ⟨bo, 2, none⟩ = some (.int .i64 xx) := by rw [← d2]; exact World.cell?_of_block (k5.block bo hB4.lt hneo)
                    have hR5 := hR4.touch k5 (Ne.symm hne)
                    have r2 := rtab2 hR5 hi
                    have f2 := Blk.frozen hR5 (128 + i)
                    have hi2 : (i : Int) < 64 := by omega
                    clear hi0 hi1
                    go_wp2_with fail
                    go_still_tail 7, (by kernel_rfl)
                    change wpList _ _ _ _ _ w5.drew
                    go_wp2_with fail
                    go_meet
                    exact ⟨rfl, _, _, Blk.other (p := ⟨br, 128 + i, none⟩) (Blk.drew hT5) hne _, rset2 (w := w5.drew) hR5 hi xx, (hW.setX hh xx).mono (by omega) (by omega), (hV.set i { R i with x := xx } hV.1 (Int.le_refl _) (hV.2 i hi).1 (hV.2 i hi).2.1 (hV.2 i hi).2.2).mono (by omega) (by omega), HS1.out, (K4.new k5 hbt).drew.new ((Only.refl br _).set _ _) hbr⟩
                have n3 : (kd == 3) = false := by simp [q3]
                by_cases q4 : kd = 4
                · subst q4
                  have hse := drop_any bt T hh w4 _ hT4 hW hh1 hh2
                  rcases HP.out with ⟨e1, e2, _, e4⟩ | ⟨i, e1, e2, _, hi, e4⟩
                  · rw [e1, e2]
                    rw [e2] at hse
                    have HG : Hid _ := hse
                    have HS1 := Lib.hid (hS.drop_none e4)
                    clear hse
                    go_wp2_with fail
                    refine Calls.mono HG.out ?_
                    rintro e w5 ⟨rfl, hT5, k5⟩
                    go_wp2_with fail
                    go_meet
                    exact ⟨rfl, _, R, hT5, hR4.touch k5 (Ne.symm hne), (hW.drop hh).mono (by omega) (by omega), hV.mono (by omega) (by omega), HS1.out, K4.new k5 hbt⟩
                  · rw [e1, e2]
                    rw [e2] at hse
                    have HG : Hid _ := hse
                    have HS1 := Lib.hid (hS.drop e4)
                    have hi0 : ¬ (i : Int) < 0 := by omega
                    have hi1 : (0 : Int) ≤ (i : Int) := by omega
                    clear hse
                    go_wp2_with fail
                    refine Calls.mono HG.out ?_
                    rintro e w5 ⟨rfl, hT5, k5⟩
                    have hR5 := hR4.touch k5 (Ne.symm hne)
                    have r2 := rtab1 hR5 hi
                    have f2 := Blk.frozen hR5 (64 + i)
                    go_wp2_with fail
                    go_meet
                    exact ⟨rfl, _, _, Blk.other (p := ⟨br, 64 + i, none⟩) hT5 hne _, rset1 hR5 hi false, (hW.drop hh).mono (by omega) (by omega), (hV.set i { R i with on := false } hV.1 (Int.le_refl _) (hV.2 i hi).1 (hV.2 i hi).2.1 (fun q => by cases q)).mono (by omega) (by omega), HS1.out, (K4.new k5 hbt).new ((Only.refl br _).set _ _) hbr⟩
                have n4 : (kd == 4) = false := by simp [q4]
                by_cases q5 : kd = 5
                · subst q5
                  have hE := each_plays bt bo T xx w4 _ hT4 hW d2 hneo
                  have HE := Lib.hid hE
                  have HS1 := Lib.hid (hS.each (fun x => wrap64 (x + xx)))
                  clear hE
                  go_wp2_with fail
                  refine Calls.mono HE.out ?_
                  rintro e w5 ⟨rfl, hT5, k5⟩
                  have d2' : w5.cell? ⟨bo, 2, none⟩ = some (.int .i64 xx) := by rw [← d2]; exact World.cell?_of_block (k5.block bo hB4.lt hneo)
                  have hR5 := hR4.touch k5 (Ne.symm hne)
                  have K5 := K4.new k5 hbt
                  go_wp2_with fail
                  go_loopw [17, 172] (fun _ i wx => ∃ m : Nat, m ≤ 64 ∧ i = .int .i64 m ∧ RTab wx br (rEach R (fun x => wrap64 (x + xx)) m) ∧ Only br w5 wx) (fun _ i _ => 64 - (intOf i).toNat)
                  case atStart => exact ⟨0, by omega, rfl, by rw [rEach_zero]; exact hR5, Only.refl br w5⟩
                  case round =>
                    obtain ⟨m, hm, rfl, hRm, hO⟩ := hrel
                    by_cases hlm : m < 64
                    · have r2 := rtab2 hRm hlm
                      have e0 : (rEach R (fun x => wrap64 (x + xx)) m m).x = (R m).x := by simp [rEach]
                      rw [e0] at r2
                      have f2 := Blk.frozen hRm (128 + m)
                      have d3 : wr.cell? ⟨bo, 2, none⟩ = some (.int .i64 xx) := by rw [← d2']; exact World.cell?_of_block (hO.block bo (World.block_lt_of_cell? _ _ d2') hneo2)
                      have HN := Lib.hid (rEach_next R (fun x => wrap64 (x + xx)) m)
                      clear e0
                      go_wp2_with fail
                      go_still_tail 14, (by kernel_rfl)
                      change wpList _ _ _ _ _ wr.drew
                      go_wp2_with fail
                      go_roundw
                      case rel => exact ⟨m + 1, by omega, by go_num, by rw [← HN.out]; exact rset2 (w := wr.drew) hRm hlm _, hO.drew.set _ _⟩
                      case measure => simp [intOf]; omega
                    · obtain rfl : m = 64 := by omega
                      go_wp2_with fail
                      go_meet
                      exact ⟨rfl, _, _, hT5.touch hO hne, hRm, (hW.each _ _).mono (by omega) (by omega), (hV.rEach _ _).mono (by omega) (by omega), HS1.out, K5.new hO hbr⟩
                have n5 : (kd == 5) = false := by simp [q5]
                go_wp2_with fail
                go_meet
                exact ⟨rfl, T, R, hT4, hR4, hW.mono (by omega) (by omega), hV.mono (by omega) (by omega), hS, K4⟩
              case rest => as_aux_lemma =>
                obtain ⟨rfl, T', R', hT5, hR5, W5, V5, S5, K5⟩ := hcut
                clear hT4 hR4 hB4 K4 hW hV hS d0 d1 d2 HP
                generalize wc = w6 at *
                go_wp2_with fail
                refine (rall_any _ R' _ _ hR5 V5).mono ?_
                rintro e w7 ⟨ad7, cp7, rfl, hown7, k7⟩
                obtain ⟨hrd7, hlo7⟩ := hown7.rd
                have hT7 := Blk.touch hT5 k7 (fun h => h)
                have hR7 := Blk.touch hR5 k7 (fun h => h)
                have K7 := Keeps.trans K5 k7
                have hal := Lib.hid S5.all
                have hl64 := allT_len R'
                go_wp2_with fail
                refine (len_any _ T' _ _ hT7 W5).mono ?_
                rintro e w8 ⟨rfl, k8⟩
                rw [hal.out]
                go_wp2_with fail
                refine (all_any _ T' _ _ (Blk.touch hT7 k8 (fun h => h)) W5).mono ?_
                rintro e w9 ⟨ad9, cp9, rfl, hown9, k9⟩
                obtain ⟨hrd9, _⟩ := hown9.rd
                rw [hal.out] at hrd9 ⊢
                have k89 := Keeps.trans k8 k9
                go_wp2_with fail
                refine (same_any _ _ _ _ _ _ _ _ _ hrd9 (hrd7.keep k89) (by omega) (by omega)).mono ?_
                rintro e w10 ⟨rfl, k10⟩
                rw [sameB_true (fun _ _ => rfl)]
                have k810 := Keeps.trans k89 k10
                have hT10 := Blk.touch hT7 k810 (fun h => h)
                have hR10 := Blk.touch hR7 k810 (fun h => h)
                have hrd10 := hrd7.keep k810
                have K10 := Keeps.trans K7 k810
                clear hT5 hR5 hT7 hR7 K5 K7 k7 k8 k9 k89 k10 k810 hrd7 hrd9 hown7 hown9 hlo7
                go_wp2_with fail
                go_loopw [210] (fun i wx => ∃ m : Nat, m ≤ (allT R').length ∧ i = .int .i64 m ∧ Keeps w10 wx) (fun i _ => (allT R').length - (intOf i).toNat)
                case atStart => exact ⟨0, Nat.zero_le _, rfl, Touch.refl _ _⟩
                case round =>
                  obtain ⟨m, hm, rfl, kx⟩ := hrel
                  by_cases hlt2 : m < (allT R').length
                  · obtain ⟨hh3, j, q0, y1, y2, e7, g1, g2⟩ := checked W5 V5 S5 hlt2
                    obtain ⟨bl3, off3, rfl, c7⟩ := (hrd10.keep kx).one hlt2
                    have c8 : wr.cell? ⟨bl3, off3 + m, none⟩ = some (.int .i64 hh3) := by rw [← e7]; exact c7
                    have G1 := Lib.hid (g1 bt)
                    have G2 := Lib.hid (g2 br)
                    clear c7 e7 g1 g2
                    have hlt3 : (m : Int) < ((allT R').length : Int) := by omega
                    go_wp2_with fail
                    refine (G1.out _ (hT10.touch kx (fun h => h))).mono ?_
                    rintro e w11 ⟨rfl, k11⟩
                    have kx2 := Keeps.trans kx k11
                    have hR11 := Blk.touch hR10 kx2 (fun h => h)
                    have r2 := rtab2 hR11 q0
                    have c9 : w11.cell? ⟨bl3, off3 + m, none⟩ = some (.int .i64 hh3) := by rw [← c8]; exact World.cell?_of_block (k11.block bl3 (World.block_lt_of_cell? _ _ c8) (fun h => h))
                    have G3 := Lib.hid (fun n => Calls.quiet_of_same ((G2.out (w11.drewN n) (Blk.drewN n hR11)).mono fun _ _ h => ⟨h.1, h.2.symm⟩))
                    clear c8
                    go_wp2_with fail
                    go_quiet ((go_at_call 20; exact G3.out _))
                    go_wp2_with fail
                    go_roundw
                    case rel => exact ⟨m + 1, by omega, by go_num, kx2.drewN _⟩
                    case measure => simp [intOf]; omega
                  · go_wp2_with fail
                    go_roundw
                    case rel => exact ⟨k + 1, by omega, by go_num, T', R', hT10.touch kx (fun h => h), hR10.touch kx (fun h => h), W5, V5, S5, Keeps.trans K10 kx⟩
                    case measure => simp [intOf]; omega
      · go_wp2_with fail
        go_ret
        exact ⟨rfl, K⟩
  · have hgt : decide ((300 : Int) < (len : Int)) = true := by simp; omega
    go_enter Try.func7, Try.ntmps7
    go_wp2_with fail
    refine (awake_any _).mono ?_
    rintro e w1 ⟨rfl, k1⟩
    go_wp2_with fail
    refine (awake_any _).mono ?_
    rintro e w2 ⟨rfl, k2⟩
    go_wp2_with fail
    go_ret
    exact ⟨rfl, Keeps.trans k1 k2⟩

end Go.Proofs.Ytnjjecojedlccaa
