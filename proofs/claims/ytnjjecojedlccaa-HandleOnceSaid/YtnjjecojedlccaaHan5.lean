/- (*Table).Each by contract, over any function value that keeps a state of its own. -/
import Derived.Test.YtnjjecojedlccaaHan4
import Derived.Test.YtnjjecojedlccaaOpen
import Derived.Test.YtnjjecojedlccaaHanPlaces
namespace Go.Proofs.Ytnjjecojedlccaa
open Go.RowKit

theorem allK_step (T : Nat → Pl) (k : Nat) : (allK T (k + 1)).length = (allK T k).length + (if (T k).on then 1 else 0) := by
  cases h : (T k).on with
  | true => rw [allK_on h]; simp
  | false => rw [allK_off h]; simp
theorem allK_mono (T : Nat → Pl) (j m : Nat) : (allK T j).length ≤ (allK T (j + m)).length := by
  induction m with
  | zero => exact Nat.le_refl _
  | succ m ih => rw [← Nat.add_assoc, allK_step]; omega
theorem allK_at (T : Nat → Pl) : ∀ (K k : Nat) (h : k < (allK T K).length), ∃ j, j < K ∧ (T j).on = true ∧ (allK T j).length = k ∧ (allK T K)[k] = hnd (T j) j
  | 0, k, h => by simp [allK] at h
  | K + 1, k, h => by
    cases hon : (T K).on with
    | true =>
      have e := allK_on hon
      simp only [e] at h ⊢
      rw [List.length_append] at h
      by_cases hk : k < (allK T K).length
      · obtain ⟨j, h1, h2, h3, h4⟩ := allK_at T K k hk
        exact ⟨j, by omega, h2, h3, by rw [List.getElem_append_left hk]; exact h4⟩
      · have : k = (allK T K).length := by simp at h; omega
        subst this
        exact ⟨K, by omega, hon, rfl, by simp⟩
    | false =>
      have e := allK_off hon
      simp only [e] at h ⊢
      obtain ⟨j, h1, h2, h3, h4⟩ := allK_at T K k h
      exact ⟨j, by omega, h2, h3, h4⟩
theorem allK_off_between {T : Nat → Pl} {j j0 : Nat} (h : (allK T j).length = (allK T j0).length) : ∀ i, j ≤ i → i < j0 → (T i).on = false := by
  intro i h1 h2
  have a := allK_mono T j (i - j)
  have b := allK_mono T (i + 1) (j0 - (i + 1))
  have c := allK_step T i
  rw [show j + (i - j) = i from by omega] at a
  rw [show i + 1 + (j0 - (i + 1)) = j0 from by omega] at b
  cases ho : (T i).on with
  | false => rfl
  | true => rw [ho] at c; simp at c; omega

/-- The table when the places below j were gone through. -/
def eachJ (T : Nat → Pl) (g : Int → Int) (j : Nat) : Nat → Pl := fun i => if (T i).on = true ∧ i < j then { T i with x := g (T i).x } else T i
/-- What they stood for, in order. -/
def xsJ (T : Nat → Pl) (j : Nat) : List Int := (List.range j).filterMap fun i => if (T i).on then some (T i).x else none
theorem xsJ_on {T : Nat → Pl} {k : Nat} (h : (T k).on = true) : xsJ T (k + 1) = xsJ T k ++ [(T k).x] := by
  simp [xsJ, List.range_succ, List.filterMap_append, h]
theorem xsJ_off {T : Nat → Pl} {k : Nat} (h : (T k).on = false) : xsJ T (k + 1) = xsJ T k := by
  simp [xsJ, List.range_succ, List.filterMap_append, h]
theorem xsJ_same {T : Nat → Pl} {j : Nat} (m : Nat) (h : ∀ i, j ≤ i → i < j + m → (T i).on = false) : xsJ T (j + m) = xsJ T j := by
  induction m with
  | zero => rfl
  | succ m ih => rw [← Nat.add_assoc, xsJ_off (h _ (by omega) (by omega)), ih (fun i h1 h2 => h i h1 (by omega))]
theorem eachJ_same {T : Nat → Pl} (g : Int → Int) {j j0 : Nat} (h : ∀ i, j ≤ i → i < j0 → (T i).on = false) (hj : j ≤ j0) : eachJ T g j = eachJ T g j0 := by
  funext i
  unfold eachJ
  by_cases h1 : i < j
  · have : i < j0 := by omega
    simp [h1, this]
  · by_cases h2 : i < j0
    · simp [h i (by omega) h2]
    · simp [h1, h2]
theorem eachJ_next {T : Nat → Pl} (g : Int → Int) {j : Nat} (h : (T j).on = true) : setT (eachJ T g j) j { eachJ T g j j with x := g (T j).x } = eachJ T g (j + 1) := by
  funext i
  unfold setT
  by_cases e : i = j
  · subst e; simp [eachJ, h]
  · rw [if_neg e]
    unfold eachJ
    by_cases h1 : i < j
    · have : i < j + 1 := by omega
      simp [h1, this]
    · have : ¬ i < j + 1 := by omega
      simp [h1, this]
theorem WF.each {T : Nat → Pl} {N : Int} (h : WF T N) (g : Int → Int) (j : Nat) : WF (eachJ T g j) N := by
  refine ⟨h.1, fun i hi => ?_⟩
  obtain ⟨a, b, c⟩ := h.2 i hi
  unfold eachJ
  split
  · exact ⟨a, b, c⟩
  · exact ⟨a, b, c⟩
theorem find_each {T : Nat → Pl} (g : Int → Int) {j : Nat} (hj : j < 64) (hon : (T j).on = true) (h1 : 1 ≤ (T j).n) : findT (eachJ T g j) (hnd (T j) j) = some j := by
  have e : ((hnd (T j) j - 1) % 64).toNat = j := by unfold hnd; omega
  have e2 : eachJ T g j j = T j := by simp [eachJ]
  unfold findT
  rw [e, e2, if_pos ⟨by unfold hnd; omega, hon, rfl⟩]

theorem eql_nilfunc (f : Fn) (a b : Array Value) (w : World) : (binOp .eql 46 (.func f a b) .nilFunc).run Try.prog w = .ok (.bool false) w := by kernel_rfl

def EachRel (w : World) (b : Nat) (T : Nat → Pl) (g : Int → Int) (base : Nat) (S : Nat → Prop) (I : List Int → World → Prop) (k : Nat) (wr : World) : Prop :=
  ∃ j, j ≤ 64 ∧ (allK T j).length = k ∧ Tab wr b (eachJ T g j) ∧ I (xsJ T j) wr ∧ Touch (fun k => k = b ∨ S k ∨ base ≤ k) w wr

set_option maxHeartbeats 1000000 in
theorem each_any (b : Nat) (T : Nat → Pl) (w : World) (N : Int) (hT : Tab w b T) (hw : WF T N) (K : Nat) (caps : Array Value) (g : Int → Int) (S : Nat → Prop) (I : Nat → List Int → World → Prop)
    (hcall : ∀ (ar : Array Value) (w : World), (callFunc K ar).run Try.prog w = .ok (.enter K ar) w) (hSb : ¬ S b) (hS : ∀ k, S k → k < w.heap.size)
    (hI : ∀ w1, Keeps w w1 → I w1.heap.size [] w1) (hst : ∀ base l wx wy, I base l wx → Only b wx wy → I base l wy)
    (hstep : ∀ base l x wx, w.heap.size ≤ base → base ≤ wx.heap.size → l.length ≤ 64 → I base l wx → Calls Try.prog K (#[.int .i64 x] ++ caps) wx fun e w' => e = .returned (.int .i64 (g x)) ∧ I base (l ++ [x]) w' ∧ Touch (fun k => S k ∨ base ≤ k) wx w') :
    Calls Try.prog 16 #[.pointer (some ⟨b, 0, none⟩), .func (.func K) #[] caps] w fun e w' => e = .returned (.tuple #[]) ∧ Tab w' b (eachJ T g 64) ∧ (∃ base, w.heap.size ≤ base ∧ I base (xsJ T 64) w') ∧ Touch (fun k => k = b ∨ S k) w w' := by
  have hq := eql_nilfunc
  have HI := Lib.hid hI
  have HS := Lib.hid hst
  have HC := Lib.hid hstep
  clear hI hst hstep
  go_enter Try.func16, Try.ntmps16
  go_wp2_with fail
  refine (all_any _ T _ _ hT hw).mono ?_
  rintro e w1 ⟨ad, cp, rfl, hown, k1⟩
  go_wp2_with fail
  have hI1 := HI.out w1 k1
  have hT1 := Blk.touch hT k1 (fun k => k)
  obtain ⟨hrd, hlo⟩ := hown.rd
  have hl64 := allT_len T
  have hbw : b < w.heap.size := hT.lt
  have hsz : w.heap.size ≤ w1.heap.size := k1.size
  have hlo' : ∀ bb off, ad = some ⟨bb, off, none⟩ → ¬ (bb = b ∨ S bb ∨ w1.heap.size ≤ bb) := fun bb off e h => by
    obtain ⟨h1, h2⟩ := hlo bb off e
    rcases h with h | h | h
    · omega
    · have := hS bb h; omega
    · omega
  have HLO := Lib.hid hlo'
  have HBD := Lib.hid (fun k (h : k < (allT T).length) => allT_bd hw h)
  have HAT := Lib.hid (allK_at T 64)
  have HSS := Lib.hid hS
  have HSB := Lib.hid hSb
  clear hlo hlo' hown hS hSb
  obtain ⟨base, hbase⟩ : ∃ base, base = w1.heap.size := ⟨_, rfl⟩
  rw [← hbase] at HLO hI1 hsz
  have hb1 : base ≤ w1.heap.size := by omega
  clear hbase
  go_loopw [12] (fun i wr => ∃ k : Nat, k ≤ (allT T).length ∧ i = .int .i64 k ∧ EachRel w1 b T g base S (I base) k wr) (fun i _ => (allT T).length - (intOf i).toNat)
  case atStart =>
    refine ⟨0, Nat.zero_le _, rfl, 0, by omega, rfl, ?_, hI1, Touch.refl _ _⟩
    have e : eachJ T g 0 = T := by funext i; simp [eachJ]
    rw [e]; exact hT1
  case round =>
    obtain ⟨k, hk, rfl, j, hj, hjk, hTr, hIr, hTo⟩ := hrel
    by_cases hlt : k < (allT T).length
    · obtain ⟨j0, q0, q1, q2, q3⟩ := HAT.out k hlt
      have hjj : j ≤ j0 := by
        rcases Nat.lt_or_ge j0 j with h | h
        · have a := allK_mono T (j0 + 1) (j - (j0 + 1))
          rw [show j0 + 1 + (j - (j0 + 1)) = j from by omega, allK_step, q1] at a
          simp at a; omega
        · exact h
      have hoff := allK_off_between (j := j) (j0 := j0) (by rw [hjk, q2])
      have e1 := eachJ_same g hoff hjj
      have e2 : xsJ T j0 = xsJ T j := by
        have := xsJ_same (T := T) (j := j) (j0 - j) (fun i h1 h2 => hoff i h1 (by omega))
        rwa [show j + (j0 - j) = j0 from by omega] at this
      rw [e1] at hTr
      rw [← e2] at hIr
      obtain ⟨n0, n1, n2⟩ := hw.2 j0 q0
      have hfd := find_each g q0 q1 (n2 q1)
      have hq3 : (allT T).getD k 0 = hnd (T j0) j0 := by rw [List.getD_eq_getElem?_getD, List.getElem?_eq_getElem hlt]; exact q3
      obtain ⟨y1, y2⟩ := HBD.out k hlt
      obtain ⟨bl, off, had, c1⟩ := (hrd.keepS hTo HLO.out).one hlt
      subst had
      have c2 : wr.cell? ⟨bl, off + k, none⟩ = some (.int .i64 ((allT T).getD k 0)) := c1
      rw [hq3] at c2 y1 y2
      have hlen : (xsJ T j0).length ≤ 64 := by
        have := List.length_filterMap_le (fun i => if (T i).on then some (T i).x else none) (List.range j0)
        simp only [List.length_range] at this
        unfold xsJ; omega
      have hfind := find_any b (eachJ T g j0) (hnd (T j0) j0) wr N hTr (hw.each g j0) (by omega) (by omega)
      rw [hfd] at hfind
      unfold ptrOf at hfind
      have HF : Hid _ := hfind
      have HN := Lib.hid (eachJ_next g q1)
      have HX := Lib.hid (xsJ_on q1)
      have HK := Lib.hid (allK_step T j0)
      have HQ1 := Lib.hid q1
      have HQ2 := Lib.hid q2
      clear hfind hfd hq3 e1 e2 hoff c1 q1 q2 q3 hjk n2
      generalize hnd (T j0) j0 = hh at *
      go_wp2_with fail
      refine Calls.mono HF.out ?_
      rintro e w2 ⟨rfl, k2⟩
      have hT2 := Blk.touch hTr k2 (fun k => k)
      have c3 := tab2 hT2 q0
      have c4 : (eachJ T g j0 j0).x = (T j0).x := by simp [eachJ]
      rw [c4] at c3
      clear c4
      have hI2 := HS.out _ _ _ _ hIr k2.only
      have hsz2 := k2.size
      have hsz3 := hTo.size
      go_wp2_with fail
      refine (HC.out base (xsJ T j0) _ _ hsz (by omega) hlen hI2).mono ?_
      rintro e w3 ⟨rfl, hI3, k3⟩
      have hT3 := hT2.touch k3 (fun h => by
        rcases h with h | h
        · exact HSB.out h
        · omega)
      have c5 := tab2 hT3 q0
      have f5 := Blk.frozen hT3 (j0 * 3 + 2)
      go_wp2_with fail
      go_roundw
      case rel =>
        refine ⟨k + 1, by omega, by go_num, j0 + 1, by omega, ?_, ?_, ?_, ?_⟩
        · rw [HK.out, HQ1.out, HQ2.out]; simp
        · rw [← HN.out]; exact tabSet2 hT3 (g (T j0).x)
        · rw [HX.out]; exact HS.out _ _ _ _ hI3 ((Only.refl b w3).set _ _)
        · refine Touch.setCell (((hTo.trans k2 (fun _ h => h.elim)).trans k3 (fun x h _ => .inr h))) (fun _ => .inl rfl) _
      case measure => simp [intOf]; omega
    · obtain rfl : k = (allT T).length := by omega
      have hjk' : (allK T j).length = (allK T 64).length := hjk
      have hoff := allK_off_between (j := j) (j0 := 64) hjk'
      have e1 := eachJ_same g hoff hj
      have e2 : xsJ T 64 = xsJ T j := by
        have := xsJ_same (T := T) (j := j) (64 - j) (fun i h1 h2 => hoff i h1 (by omega))
        rwa [show j + (64 - j) = 64 from by omega] at this
      rw [e1] at hTr
      rw [← e2] at hIr
      have hE1 := Lib.hid e1
      have hE2 := Lib.hid e2
      clear e1 e2 hjk hjk' hoff
      go_wp2_with fail
      go_end0
      refine ⟨rfl, hTr, ⟨base, hsz, hIr⟩, Touch.trans (Touch.mono k1 (fun _ h _ => h.elim)) hTo (fun x h hx => ?_)⟩
      rcases h with h | h | h
      · exact .inl h
      · exact .inr h
      · omega

end Go.Proofs.Ytnjjecojedlccaa
