/- Slide: back; rows that are written. -/
import Derived.Test.YtaajcbklknjigaaSl2
namespace Go.Proofs.Ytaajcbklknjigaa
open Go.RowKit

theorem info_sp : (Try.prog.info? 36).map (fun i => (i.zero, i.size, i.bytes)) = some (some (.agg #[.int .i64 0, .int .i64 0, .int .i64 0]), 3, 24) := by kernel_rfl
theorem info_rsp : (Try.prog.info? 40).map (fun i => (i.zero, i.size, i.bytes)) = some (some (.agg #[.int .i64 0, .int .i64 0, .int .i64 0]), 3, 24) := by kernel_rfl
theorem made_sp (T : TypeId) (w : World) (s : Sp) : Blk (w.alloc (.cells #[.int .i64 s.f, .int .i64 s.t, .int .i64 s.e] T)) w.heap.size T 3 (spF fun _ => s) :=
  Blk.made w 3 _ _ _ rfl (fun j hj => by rcases (by omega : j = 0 ∨ j = 1 ∨ j = 2) with rfl | rfl | rfl <;> rfl)
theorem made0 (T : TypeId) (w : World) (s : Sp) : (w.alloc (.cells #[.int .i64 s.f, .int .i64 s.t, .int .i64 s.e] T)).cell? ⟨w.heap.size, 0, none⟩ = some (.int .i64 s.f) := (made_sp T w s).cell (j := 0) (by omega)
theorem made1 (T : TypeId) (w : World) (s : Sp) : (w.alloc (.cells #[.int .i64 s.f, .int .i64 s.t, .int .i64 s.e] T)).cell? ⟨w.heap.size, 1, none⟩ = some (.int .i64 s.t) := (made_sp T w s).cell (j := 1) (by omega)
theorem made2 (T : TypeId) (w : World) (s : Sp) : (w.alloc (.cells #[.int .i64 s.f, .int .i64 s.t, .int .i64 s.e] T)).cell? ⟨w.heap.size, 2, none⟩ = some (.int .i64 s.e) := (made_sp T w s).cell (j := 2) (by omega)

set_option maxHeartbeats 1000000 in
theorem back_any (A : Option Addr) (n cap : Nat) (L : Nat → Sp) (w : World) (hr : Rd w A (n * 3) (spF L)) (hn : n ≤ 1000000) :
    Calls Try.prog 7 #[.slice A n cap] w fun e w' => ∃ ad cp, e = .returned (.slice ad n cp) ∧ OwnSp 36 w' w.heap.size (.slice ad n cp) L n ∧ Keeps w w' := by
  go_enter Try.func7, Try.ntmps7
  go_wp2_with fail
  go_loopw [3, 7] (fun v i wr => ∃ k : Nat, k ≤ n ∧ i = .int .i64 k ∧ OwnSp 36 wr w.heap.size v L k ∧ Keeps w wr) (fun _ i _ => n - (intOf i).toNat)
  case atStart => exact ⟨0, Nat.zero_le _, rfl, OwnSp.nil_ _ _ _ _, Touch.refl _ _⟩
  case round =>
    obtain ⟨k, hk, rfl, hown, K⟩ := hrel
    by_cases hlt : k < n
    · obtain ⟨b, off, rfl, c0, c1, c2⟩ := (hr.keep K).sp hlt
      have hsz := K.size
      have LT := Lib.hid hown.lt
      have hm := made_sp 36 wr (L k)
      have KA := K.alloc (.cells #[.int .i64 (L k).f, .int .i64 (L k).t, .int .i64 (L k).e] 36)
      have hown' := hown.touch ((Touch.refl (fun _ => False) wr).alloc (.cells #[.int .i64 (L k).f, .int .i64 (L k).t, .int .i64 (L k).e] 36)) (fun _ _ h => h)
      have hk' : k ≤ 1000000 := by omega
      go_wp2_with (at_builtin; refine app_sp Try.underlying25 info_sp rfl (.tmp 10) (.tmp 15) rfl w.heap.size _ L k hown' rfl wr.heap.size rfl (made0 _ _ _) (made1 _ _ _) (made2 _ _ _) hk' (by simp; omega) ?_)
      intro v' w1 hown1 g1 a1
      have K1 := KA.grown g1 (fun q e hq => by have := (LT.out q e).1; omega)
      clear a1 g1
      go_wp2_with fail
      go_roundw
      case rel => exact ⟨k + 1, by omega, by go_num, hown1, K1⟩
      case measure => simp [intOf]; omega
    · have HE : k = n := by omega
      rw [HE] at hown
      obtain ⟨ad, cp, hv⟩ := hown.form
      go_wp2_with fail
      go_ret
      exact ⟨ad, cp, congrArg _ hv, hv ▸ hown, K⟩

/-- A row of spaces that may be written, in a block between two marks. -/
def NowR (T : TypeId) (w : World) (ad : Option Addr) (n base top : Nat) (now : Nat → Sp) : Prop :=
  0 < n → ∃ g cap f, ad = some ⟨g, 0, none⟩ ∧ base ≤ g ∧ g < top ∧ n ≤ cap ∧ Blk w g T (cap * 3) f ∧ ∀ j, j < n * 3 → f j = spF now j
theorem OwnSp.now {T : TypeId} {w : World} {base : Nat} {ad : Option Addr} {cp : Nat} {F : Nat → Sp} {n : Nat} (h : OwnSp T w base (.slice ad n cp) F n) : NowR T w ad n base w.heap.size F := by
  intro hn
  obtain ⟨g, cap, f, hv, h1, h2, h3, h4⟩ := h.blk hn
  simp only [Value.slice.injEq] at hv
  exact ⟨g, cap, f, hv.1, h1, h3.lt, h2, h3, h4⟩
theorem NowR.touch {T : TypeId} {w w' : World} {ad : Option Addr} {n base top : Nat} {now : Nat → Sp} {S : Nat → Prop} (h : NowR T w ad n base top now) (ht : Touch S w w') (hs : ∀ g, base ≤ g → g < top → ¬ S g) : NowR T w' ad n base top now := by
  intro hn
  obtain ⟨g, cap, f, h0, h1, h2, h3, h4, h5⟩ := h hn
  exact ⟨g, cap, f, h0, h1, h2, h3, h4.touch ht (hs g h1 h2), h5⟩
theorem NowR.drew {T : TypeId} {w : World} {ad : Option Addr} {n base top : Nat} {now : Nat → Sp} (h : NowR T w ad n base top now) : NowR T w.drew ad n base top now := h
theorem NowR.rd {T : TypeId} {w : World} {ad : Option Addr} {n base top : Nat} {now : Nat → Sp} (h : NowR T w ad n base top now) : Rd w ad (n * 3) (spF now) := by
  intro hn
  obtain ⟨g, cap, f, h0, h1, h2, h3, h4, h5⟩ := h (by omega)
  refine ⟨g, 0, h0, h4.lt, fun j hj => ?_⟩
  have hl : n * 3 ≤ cap * 3 := Nat.mul_le_mul_right 3 h3
  rw [Nat.zero_add, h4.cell (by omega), h5 j hj]
/-- What is known at one of its spaces. -/
theorem NowR.at_ {T : TypeId} {w : World} {ad : Option Addr} {n base top k : Nat} {now : Nat → Sp} (h : NowR T w ad n base top now) (hk : k < n) :
    ∃ g, ad = some ⟨g, 0, none⟩ ∧ base ≤ g ∧ g < top ∧ w.cell? ⟨g, k * 3, none⟩ = some (.int .i64 (now k).f) ∧ w.cell? ⟨g, k * 3 + 1, none⟩ = some (.int .i64 (now k).t) ∧ w.cell? ⟨g, k * 3 + 2, none⟩ = some (.int .i64 (now k).e) ∧
      w.frozen? ⟨g, k * 3, none⟩ = false ∧ w.frozen? ⟨g, k * 3 + 1, none⟩ = false ∧ w.frozen? ⟨g, k * 3 + 2, none⟩ = false := by
  obtain ⟨b, off, e, c0, c1, c2⟩ := h.rd.sp hk
  obtain ⟨g, cap, f, h0, h1, h2, h3, h4, h5⟩ := h (by omega)
  rw [h0] at e
  simp only [Option.some.injEq, Addr.mk.injEq] at e
  obtain ⟨rfl, rfl, _⟩ := e
  rw [Nat.zero_add] at c0 c1 c2
  exact ⟨g, h0, h1, h2, c0, c1, c2, h4.frozen _, h4.frozen _, h4.frozen _⟩
/-- A space of it is set as a whole. -/
theorem NowR.set {T : TypeId} {w : World} {g n base top k : Nat} {now : Nat → Sp} (h : NowR T w (some ⟨g, 0, none⟩) n base top now) (s : Sp) :
    NowR T (((w.setCell ⟨g, k * 3, none⟩ (.int .i64 s.f)).setCell ⟨g, k * 3 + 1, none⟩ (.int .i64 s.t)).setCell ⟨g, k * 3 + 2, none⟩ (.int .i64 s.e)) (some ⟨g, 0, none⟩) n base top (setS now k s) := by
  intro hn
  obtain ⟨g', cap, f, h0, h1, h2, h3, h4, h5⟩ := h hn
  simp only [Option.some.injEq, Addr.mk.injEq] at h0
  obtain ⟨rfl, _⟩ := h0
  refine ⟨g, cap, _, rfl, h1, h2, h3, ((h4.set (k * 3) _).set (k * 3 + 1) _).set (k * 3 + 2) _, fun j hj => ?_⟩
  unfold upd spF setS
  by_cases e0 : j = k * 3
  · subst e0
    have d : k * 3 / 3 = k := by omega
    rw [if_neg (by omega), if_neg (by omega), if_pos rfl, d]
    simp
  · by_cases e1 : j = k * 3 + 1
    · subst e1
      have d : (k * 3 + 1) / 3 = k := by omega
      rw [if_neg (by omega), if_pos rfl, d, if_neg (by omega), if_pos (by omega)]
      simp
    · by_cases e2 : j = k * 3 + 2
      · subst e2
        have d : (k * 3 + 2) / 3 = k := by omega
        rw [if_pos rfl, d, if_neg (by omega), if_neg (by omega)]
        simp
      · rw [if_neg e2, if_neg e1, if_neg e0, h5 j hj]
        have d : ¬ j / 3 = k := by omega
        unfold spF
        simp only [if_neg d]
theorem NowR.set1 {T : TypeId} {w : World} {g n base top k : Nat} {now : Nat → Sp} (h : NowR T w (some ⟨g, 0, none⟩) n base top now) (t : Int) :
    NowR T (w.setCell ⟨g, k * 3 + 1, none⟩ (.int .i64 t)) (some ⟨g, 0, none⟩) n base top (setS now k { now k with t := t }) := by
  intro hn
  obtain ⟨g', cap, f, h0, h1, h2, h3, h4, h5⟩ := h hn
  simp only [Option.some.injEq, Addr.mk.injEq] at h0
  obtain ⟨rfl, _⟩ := h0
  refine ⟨g, cap, _, rfl, h1, h2, h3, h4.set (k * 3 + 1) _, fun j hj => ?_⟩
  unfold upd setS
  by_cases e1 : j = k * 3 + 1
  · subst e1
    have d : (k * 3 + 1) / 3 = k := by omega
    unfold spF
    rw [if_pos rfl, d, if_neg (by omega), if_pos (by omega)]
    simp
  · rw [if_neg e1, h5 j hj]
    unfold spF
    by_cases d : j / 3 = k
    · rcases (by omega : j % 3 = 0 ∨ j % 3 = 2) with e | e
      · simp [e, d]
      · simp [e, d]
    · simp only [if_neg d]

end Go.Proofs.Ytaajcbklknjigaa
