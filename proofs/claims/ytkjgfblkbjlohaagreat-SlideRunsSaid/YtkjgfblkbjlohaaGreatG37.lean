/- A World argument, later; a run of what was made. -/
import Derived.Test.YtkjgfblkbjlohaaGreatG15
import Derived.Test.YtkjgfblkbjlohaaGreatG36
import Derived.Test.YtkjgfblkbjlohaaGreatG41
set_option linter.all false

namespace Go.Proofs.YtkjgfblkbjlohaaGreat
open Go.RowKit

def awL : Nat → Sp := fun i => if i = 0 then ⟨1, 1, 8⟩ else ⟨8, 9, 20⟩
theorem aw_plan {out : List Int} {k : Nat} {now : Nat → Sp} {err : Int} (h : PlanIs awL 2 (fun _ => 5) 2 out k now err) : err = 0 ∧ out = [1, 8] ∧ k = 2 ∧ (now 1).t = 13 := by
  have hr : Rise awL 2 := by
    intro i hi
    rcases (by omega : i = 0 ∨ i = 1) with rfl | rfl
    · exact ⟨by decide, by decide⟩
    · exact ⟨by decide, by decide⟩
  have hz : Rise awL 2 ∧ ∀ j, j < 2 → (1 : Int) ≤ (fun _ => 5 : Nat → Int) j := ⟨hr, fun j _ => by simp⟩
  rcases h with ⟨_, _, _, a⟩ | ⟨_, _, _, _, i, b, c⟩ | ⟨rfl, rfl, rfl, rfl, _, _⟩
  · exact absurd hz a
  · rcases (by omega : i = 0 ∨ i = 1) with rfl | rfl
    · exact absurd c (by unfold Stuck; decide)
    · exact absurd c (by unfold Stuck; decide)
  · exact ⟨rfl, by decide, rfl, by decide⟩

set_option maxHeartbeats 1000000 in
theorem awake_any (w : World) : Calls Tryz.prog 5 #[] w fun e w' => e = .returned (.bool true) ∧ Keeps w w' := by
  have HP := Lib.hid (fun A c B d wx (h1 : Rd wx A (2 * 3) (spF awL)) (h2 : Rd wx B 2 (intF .i64 fun _ => 5)) => plan_any A 2 c awL B 2 d (fun _ => 5) wx h1 (by omega) h2 (by omega))
  go_enter Tryz.func5, Tryz.ntmps5
  go_wp2_with fail
  have hb1 : Blk (w.alloc (.cells #[.int .i64 1, .int .i64 1, .int .i64 8, .int .i64 8, .int .i64 9, .int .i64 20] 56)) w.heap.size 56 6 (spF awL) :=
    Blk.made w 6 _ _ _ rfl (fun j hj => by rcases (by omega : j = 0 ∨ j = 1 ∨ j = 2 ∨ j = 3 ∨ j = 4 ∨ j = 5) with rfl | rfl | rfl | rfl | rfl | rfl <;> rfl)
  have hb2 : Blk ((w.alloc (.cells #[.int .i64 1, .int .i64 1, .int .i64 8, .int .i64 8, .int .i64 9, .int .i64 20] 56)).alloc (.cells #[.int .i64 5, .int .i64 5] 3)) (w.heap.size + 1) 3 2 (intF .i64 fun _ => 5) := by
    have := Blk.made (w.alloc (.cells #[.int .i64 1, .int .i64 1, .int .i64 8, .int .i64 8, .int .i64 9, .int .i64 20] 56)) 2 3 (intF .i64 fun _ => 5) #[.int .i64 5, .int .i64 5] rfl (fun j hj => by rcases (by omega : j = 0 ∨ j = 1) with rfl | rfl <;> rfl)
    simpa using this
  have hb1' := hb1.alloc (.cells #[.int .i64 5, .int .i64 5] 3)
  have K1 := ((Touch.refl (fun _ => False) w).alloc (.cells #[.int .i64 1, .int .i64 1, .int .i64 8, .int .i64 8, .int .i64 9, .int .i64 20] 56)).alloc (.cells #[.int .i64 5, .int .i64 5] 3)
  refine (HP.out _ _ _ _ _ (fun _ => ⟨w.heap.size, 0, rfl, hb1'.lt, fun j hj => by rw [Nat.zero_add]; exact hb1'.cell hj⟩) (fun _ => ⟨w.heap.size + 1, 0, rfl, hb2.lt, fun j hj => by rw [Nat.zero_add]; exact hb2.cell hj⟩)).mono ?_
  rintro e w2 ⟨v1, ad, cp, out, k, now, err, rfl, hp, hout, hnow, k2⟩
  obtain ⟨rfl, rfl, rfl, h13⟩ := aw_plan hp
  have K2 := Keeps.trans K1 k2
  obtain ⟨oa, oc, rfl⟩ := hout.form
  obtain ⟨ob, oo, rfl, e0⟩ := hout.rd.1.one (k := 0) (by decide)
  obtain ⟨ob', oo', e2, e1⟩ := hout.rd.1.one (k := 1) (by decide)
  cases e2
  obtain ⟨gb, rfl, _, _, _, d1, _, _, _, _⟩ := hnow.at_ (k := 1) (by decide)
  rw [h13] at d1
  have x0 : w2.cell? ⟨ob, oo, none⟩ = some (.int .i64 1) := e0
  have x1 : w2.cell? ⟨ob, oo + 1, none⟩ = some (.int .i64 8) := e1
  have x2 : w2.cell? ⟨gb, 4, none⟩ = some (.int .i64 13) := d1
  clear e0 e1 d1
  clear hp hout hnow HP hb1 hb2 hb1' K1 k2 h13
  go_wp2_with fail
  go_ret
  exact ⟨rfl, K2⟩

end Go.Proofs.YtkjgfblkbjlohaaGreat

namespace Go.Proofs.YtkjgfblkbjlohaaGreat
open Go.RowKit

theorem WArg.keep {w w' : World} {Ac : Option Addr} {m cc : Nat} {C : Nat → Cl} {Th : Option Addr} {nt : Nat} {T : Nat → Thg} {Rf : Option Addr} {nr : Nat} {R : Nat → Int} {Ro : Option Addr} {nz : Nat} {Z : Nat → Int} {s0 s1 s2 : Int} (h : WArg w Ac m cc C Th nt T Rf nr R Ro nz Z s0 s1 s2) (k : Keeps w w') : WArg w' Ac m cc C Th nt T Rf nr R Ro nz Z s0 s1 s2 :=
  ⟨h.cls.keep k, h.cn, h.cl, h.ths.keep k, h.thok, h.tl, h.refs.keep k, h.rok, h.rl, h.roots.keep k, h.zok, h.zl, h.s0, h.s1, h.s2⟩
theorem Made.keep {w w' : World} {lo ba bw : Nat} {f : Nat → Int} {bt : Nat} {A : Option Addr} {m cap : Nat} {C : Nat → Cl} {gs : Nat} {av sv rv : Value} {L : Nat → Sp} {G : Nat → List Int} {ats stay roots : List Int} (h : Made w lo ba bw f bt A m cap C gs av sv rv L G ats stay roots) (k : Keeps w w') : Made w' lo ba bw f bt A m cap C gs av sv rv L G ats stay roots :=
  ⟨h.st.keep k, h.row.at_touch k (fun h => h) k.size, h.at_.touch k (fun _ _ h => h), h.stay_.touch k (fun _ _ h => h), h.roots_.touch k (fun _ _ h => h), h.inv, h.is, h.gs, h.low, h.avb, h.svb, h.rvb, h.al, h.sl, h.rl⟩
theorem OwnInts.nilv {w : World} {lo n c : Nat} {l : List Int} (h : OwnInts w lo (.slice none n c) l) : n = 0 ∧ c = 0 := by
  rcases h.cases_ with ⟨e, _⟩ | ⟨g, cap, e, _⟩
  · simp only [Value.slice.injEq, true_and] at e; exact e
  · cases e
/-- A run over lists of the call's own. -/
theorem run_own {ba bw : Nat} {f : Nat → Int} {bt : Nat} {A : Option Addr} {m cap : Nat} {C : Nat → Cl} {w : World} {L : Nat → Sp} {G : Nat → List Int} {ats stay roots : List Int} (hst : St w ba bw 500 f bt A m cap C) (hI : LInv 500 m f C L G ats) {gs : Nat} (hrow : NowR 56 w (some ⟨gs, 0, none⟩) 3 0 w.heap.size L)
    (hS : Stays 500 m f C ats stay) {lo : Nat} {sa : Option Addr} {sn sc : Nat} (hs : OwnInts w lo (.slice sa sn sc) stay) (hsb : ∀ kk, (Value.slice sa sn sc).ownBlock = some kk → kk ≠ bw) (hsl : stay.length ≤ 100)
    {lo' : Nat} {ra : Option Addr} {rn rc : Nat} (hr : OwnInts w lo' (.slice ra rn rc) roots) (hrb : ∀ kk, (Value.slice ra rn rc).ownBlock = some kk → kk ≠ bw) (hrl : roots.length ≤ 100) (hrs : ∀ x, x ∈ roots → x = 0 ∨ x ∈ stay) (scp : Nat) :
    Calls Tryz.prog 7 #[.pointer (some ⟨ba, 0, none⟩), .pointer (some ⟨bt, 0, none⟩), .slice (some ⟨gs, 0, none⟩) 3 scp, .slice sa sn sc, .slice ra rn rc] w (RunYes ba bw 500 f bt A m cap C L 3 (gt0 stay) stay.length (gt0 roots) roots.length w) := by
  have hC := hst.tb.ok
  obtain ⟨sa', sc', e, _⟩ := hs.cap
  simp only [Value.slice.injEq] at e
  obtain ⟨rfl, rfl, rfl⟩ := e
  obtain ⟨ra', rc', e, _⟩ := hr.cap
  simp only [Value.slice.injEq] at e
  obtain ⟨rfl, rfl, rfl⟩ := e
  have hR : ∀ i, i < roots.length → gt0 roots i = 0 ∨ gt0 roots i ∈ stay := fun i hi => hrs _ (gt0_mem hi)
  refine Calls.mono (run_any ba bw 500 f bt A m cap C w hst hI.i64 (some ⟨gs, 0, none⟩) 3 scp L hrow.rd ?_ (by omega) sa stay.length sc (gt0 stay) hs.rd.1 ?_ (by omega) ?_ ?_ ra roots.length rc (gt0 roots) hr.rd.1 ?_ (by omega) ?_) ?_
  · intro i hi
    have h1 := (rightB_iff _).1 (hI.rise i hi).1
    unfold InI; omega
  · intro i hi
    have := hS.bd hC hI hi
    exact i64_small (by omega) (by omega)
  · intro e
    subst e
    exact hs.nilv
  · intro b off e
    subst e
    rcases hs.cases_ with ⟨h, _⟩ | ⟨g, cap, h, _⟩
    · cases h
    · simp only [Value.slice.injEq, Option.some.injEq, Addr.mk.injEq, and_true, true_and] at h
      obtain ⟨⟨rfl, rfl⟩, rfl⟩ := h
      exact hsb b rfl
  · intro i hi
    rcases hR i hi with h | h
    · rw [h]; exact i64_small (by decide) (by decide)
    · have := hI.len hC (hS.inn _ h)
      exact i64_small (by omega) (by omega)
  · intro b off e
    subst e
    rcases hr.cases_ with ⟨h, _⟩ | ⟨g, cap, h, _⟩
    · cases h
    · simp only [Value.slice.injEq, Option.some.injEq, Addr.mk.injEq, and_true, true_and] at h
      obtain ⟨⟨rfl, rfl⟩, rfl⟩ := h
      exact hrb b rfl
  · rintro e w' (⟨_, h⟩ | ⟨h, _⟩)
    · exact h
    · exact absurd (hS.good hC hI (by omega) hR) h

end Go.Proofs.YtkjgfblkbjlohaaGreat
