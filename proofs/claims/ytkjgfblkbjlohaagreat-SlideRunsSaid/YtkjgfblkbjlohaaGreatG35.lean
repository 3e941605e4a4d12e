/- Layer 2, space: New, Split, Used, of what can be. -/
import Derived.Test.YtkjgfblkbjlohaaGreatG34
import Derived.Test.YtkjgfblkbjlohaaGreatG33
import Derived.Test.YtkjgfblkbjlohaaGreatG26
import Derived.Laws.OwnMore
import Derived.Test.YtkjgfblkbjlohaaGreatG32
set_option linter.all false

namespace Go.Proofs.YtkjgfblkbjlohaaGreat
open Go.RowKit

theorem OwnInts.cap {w : World} {base : Nat} {v : Value} {l : List Int} (h : OwnInts w base v l) : ∃ ad cp, v = .slice ad l.length cp ∧ l.length ≤ cp ∧ Rd w ad l.length (intF .i64 fun j => l.getD j 0) ∧ ∀ b off, ad = some ⟨b, off, none⟩ → base ≤ b ∧ b < w.heap.size := by
  obtain ⟨ad, cp, rfl⟩ := h.form
  refine ⟨ad, cp, rfl, ?_, h.rd.1, h.rd.2⟩
  rcases h.2 with ⟨he, h0⟩ | ⟨g, cap, cur, he, _, _, h1, _⟩
  · omega
  · simp only [Value.slice.injEq] at he; omega
theorem zero_rst (w : World) : (zeroValue 42).run Tryz.prog w = .ok (.agg #[.pointer none, .slice none 0 0]) w := by kernel_rfl
def StoreOut (f : Nat → Int) (Ac : Option Addr) (m cc : Nat) (C : Nat → Cl) (w : World) (e : Ending) (w' : World) : Prop :=
  ∃ pa wad wcp, e = .returned (rstV pa Ac m cc) ∧ RSt w' pa 500 f wad wcp Ac m C ∧ ((w.heap.size ≤ pa ∧ pa < w'.heap.size) ∧ ∀ b off, wad = some ⟨b, off, none⟩ → w.heap.size ≤ b ∧ b < w'.heap.size) ∧ Keeps w w'
set_option maxHeartbeats 1000000 in
theorem lstore_any (ba bw : Nat) (f : Nat → Int) (w : World) (h : Ar w ba bw 500 f) (xb : Nat) (C : Nat → Cl) (Ac : Option Addr) (m cc : Nat) (hx : w.cell? ⟨xb, 0, none⟩ = some (.pointer (some ⟨ba, 0, none⟩))) (hc : w.cell? ⟨xb, 8, none⟩ = some (.slice Ac m cc))
    (hAc : Rd w Ac (m * 4) (clF C)) (hm : m < 64) (hC : ∀ j, j < m → (C j).ok) :
    Calls Tryz.prog 6 #[.pointer (some ⟨xb, 0, none⟩)] w (StoreOut f Ac m cc C w) := by
  have HW := Lib.hid (show ∀ w', Keeps w w' → Calls Tryz.prog 12 #[.pointer (some ⟨ba, 0, none⟩), .int .i64 0, .int .i64 500] w' fun e w2 => ∃ v, e = .returned (.tuple #[v, .int .i64 0]) ∧ OwnInts w2 w'.heap.size v ((List.range 500).map f) ∧ Keeps w' w2 from fun w' k => by
    have hh := words_yes ba bw 500 f w' (h.keep k) 0 500 (by omega) (by omega) (by omega)
    simpa using hh)
  have hz := zero_rst
  have hxl := block_lt_of_cell hx
  dsimp only at hxl
  clear h
  go_enter Tryz.func6, Tryz.ntmps6
  go_wp2_with fail
  refine named (fun w1 hW1 => ?_)
  have k1 : Keeps w w1 := by rw [hW1]; exact (Touch.refl _ w).alloc _
  have B1 : BL w1 w.heap.size 42 [.pointer none, .slice none 0 0] := by rw [hW1]; exact BL.new1 _ _ _ [.pointer none, .slice none 0 0] _ rfl rfl
  have z0 : w1.heap.size = w.heap.size + 1 := by rw [hW1]; simp
  clear hW1
  refine Calls.mono (HW.out _ k1) ?_
  rintro e w2 ⟨v, rfl, hv, k2⟩
  obtain ⟨wad, wcp, hvv, hcp, hrd, hlo⟩ := hv.cap
  have hl : ((List.range 500).map f).length = 500 := by simp
  rw [hl] at hvv hcp hrd
  subst hvv
  clear hv
  have hrd2 : Rd w2 wad 500 (intF .i64 f) := hrd.congr (fun j hj => by show Value.int _ (((List.range 500).map f).getD j 0) = Value.int _ (f j); rw [map_range_getD f 500 j hj])
  have HRd := Lib.hid hrd2
  have K2 := Keeps.trans k1 k2
  have hx2 := cell_keep hx K2
  have hc2 := cell_keep hc K2
  have B2 := B1.keep k2
  have HAc := Lib.hid hAc
  have HLo := Lib.hid hlo
  have r0 := B2.c 0 _ rfl
  have r1 := B2.c 1 _ rfl
  have f0 := B2.fz 0
  have f1 := B2.fz 1
  have zl := B2.lt
  have hx3 := block_lt_of_cell hx2
  dsimp only at hx3
  have BA := BL.new1 w2 59 _ [.slice wad 500 wcp] w2.heap.size rfl rfl
  have z1 := k1.size
  have z2 := k2.size
  clear hrd hrd2 hl hx hc hAc hlo
  go_wp2_with fail
  have o3 : Only w.heap.size w2 ((w2.setCell ⟨w.heap.size, 0, none⟩ (.pointer (some ⟨w2.heap.size, 0, none⟩))).setCell ⟨w.heap.size, 1, none⟩ (.slice Ac m cc)) := Touch.set (Touch.set (Only.refl _ w2) 0 _) 1 _
  have HE := BL.alloc (BL.set (BL.set B2 0 (.pointer (some ⟨w2.heap.size, 0, none⟩))) 1 (.slice Ac m cc)) (.cells #[.slice wad 500 wcp] 59)
  have s0 := HE.c 0 _ rfl
  have s1 := HE.c 1 _ rfl
  have K3 := Touch.new K2 o3 (Nat.le_refl _)
  have KA := Touch.alloc K3 (.cells #[.slice wad 500 wcp] 59)
  refine bodyPost_ret (v := .agg #[.pointer (some ⟨w2.heap.size, 0, none⟩), .slice Ac m cc]) (by simp [results, Tryz.results6, go_sem, s0, s1]) rfl ⟨w2.heap.size, wad, wcp, rfl, ⟨?_, ?_, HAc.out.keep KA, hm, hC, by omega, hcp⟩, ⟨⟨by omega, by simp⟩, fun b off e => by have := HLo.out b off e; simp; omega⟩, KA⟩
  · exact (BL.new1 _ 59 _ [.slice wad 500 wcp] w2.heap.size (by simp) rfl).c 0 _ rfl
  · exact (HRd.out.keepS o3 (fun b off e h => by have := (HLo.out b off e).1; omega)).keep ((Touch.refl _ _).alloc _)

end Go.Proofs.YtkjgfblkbjlohaaGreat

namespace Go.Proofs.YtkjgfblkbjlohaaGreat
open Go.RowKit

theorem getD_range (l : List Int) : (List.range l.length).map (fun j => l.getD j 0) = l := by
  apply List.ext_getElem?
  intro i
  rw [List.getElem?_map]
  rcases Nat.lt_or_ge i l.length with h | h
  · rw [List.getElem?_eq_getElem h, List.getElem?_range h]
    simp [List.getD_eq_getElem?_getD, List.getElem?_eq_getElem h]
  · rw [List.getElem?_eq_none h, List.getElem?_eq_none (by simpa using h)]
    rfl
theorem OwnInts.cases_ {w : World} {base : Nat} {v : Value} {l : List Int} (h : OwnInts w base v l) : (v = .slice none 0 0 ∧ l = []) ∨ ∃ g cap, v = .slice (some ⟨g, 0, none⟩) l.length cap ∧ l.length ≤ cap ∧ base ≤ g ∧ g < w.heap.size := by
  have hlt := h.lt
  rcases h.2 with ⟨rfl, h0⟩ | ⟨g, cap, cur, rfl, hb, hgg, hc, _⟩
  · exact .inl ⟨rfl, List.length_eq_zero_iff.1 h0⟩
  · exact .inr ⟨g, cap, rfl, hc, hb, (hlt g rfl).2⟩
theorem RSt.grown {w w' : World} {pa n : Nat} {W : Nat → Int} {wad : Option Addr} {wcp : Nat} {A : Option Addr} {m : Nat} {C : Nat → Cl} (h : RSt w pa n W wad wcp A m C) {row : Option Nat} (hg : w.grownBy w' row) (h1 : row ≠ some pa) (h2 : ∀ b off, wad = some ⟨b, off, none⟩ → row ≠ some b) (h3 : ∀ b off, A = some ⟨b, off, none⟩ → row ≠ some b) : RSt w' pa n W wad wcp A m C := by
  have ht : Touch (fun kk => row = some kk) w w' := Touch.grown (Touch.refl _ w) hg (fun kk e _ => e)
  exact ⟨cell_t h.ptr ht h1, h.row.keepS ht h2, h.cls.keepS ht h3, h.le, h.ok, h.sz, h.cap⟩
section
variable {o : Oper} {a : Act} {w : World} {K : Act → World → Prop} {Q : Exit → Act → World → Prop}
theorem wp_app_own (d : Option Nat) (hd : o.dst = d) (s x : Operand) (ho : o.op = .call { callee := .builtin .append, args := #[s, x], argTypes := #[34, 34] }) (base : Nat) (v : Value) (l : List Int) (hown : OwnInts w base v l) (hs : a.eval s = v)
    (bx : Nat) (vx : Value) (lx : List Int) (hxo : OwnInts w bx vx lx) (hx : a.eval x = vx) (hl : l.length + lx.length ≤ 1000000) (hb : base ≤ w.heap.size)
    (h : ∀ v' w', OwnInts w' base v' (l ++ lx) → w.grownBy w' v.ownBlock → (v'.ownBlock = v.ownBlock ∨ v'.ownBlock = some w.heap.size) → K (a.put d v') w') : Oper.wp Tryz.prog o a w K Q := by
  subst hd
  rcases hxo.cases_ with ⟨rfl, rfl⟩ | ⟨g, cap, rfl, hc, _, _⟩
  · obtain ⟨i0, hi, hz0, hz1, hz2⟩ := info_parts info_int
    have hr' := run_append_owned_none (P := Tryz.prog) (w := w) base 34 o.type 3 i0 1 Tryz.underlying34 hi v l.length (ints l) hown
    unfold Oper.wp execOp
    simp only [ho, resolve, invoke, builtin, Sem.run_bind, Sem.run_pure, Result.andThen_ok, List.map_toArray, List.map_cons, List.map_nil, hs, hx, hr']
    exact h _ _ (by rw [List.append_nil]; exact hown) ⟨rfl, rfl, rfl, Nat.le_refl _, fun _ _ _ => rfl⟩ (.inl rfl)
  · refine wp_app_ints s x ho base v l hown hs ⟨g, 0, none⟩ lx.length cap hx (fun j => lx.getD j 0) hxo.rd.1 hl hb ?_
    rw [getD_range]
    exact h
end

end Go.Proofs.YtkjgfblkbjlohaaGreat

namespace Go.Proofs.YtkjgfblkbjlohaaGreat
open Go.RowKit

/-- Tiles, but for a word inside an object. -/
theorem Tiles.inside {n m : Nat} {f g : Nat → Int} {C : Nat → Cl} (hC : ∀ j, j < m → (C j).ok) {a z : Int} {X : List Int} (h : Tiles (atT n f m C) a z X) {b : Int} (hb : b ∈ X) {c : Nat} (h1 : b + 2 ≤ c) (h2 : (c : Int) < b + (atT n f m C b).1.words) (hg : ∀ j, j ≠ c → g j = f j) :
    Tiles (atT n g m C) a z X := by
  induction h with
  | nil a => cases hb
  | cons k1 k2 k3 ih =>
    rename_i a z L
    have ka := (at_ok hC k1).1
    have hrest : ∀ x, x ∈ L → a + (atT n f m C a).1.words ≤ x := fun x hx => (k3.bd hC hx).1
    by_cases e : a = b
    · subst e
      have e2 : atT n g m C a = atT n f m C a := atT_two (hg _ (by omega)) (hg _ (by omega))
      rw [← e2] at k1 k2 k3 ⊢
      refine .cons k1 k2 ?_
      rw [e2] at k3 ⊢
      exact k3.congr hC (fun j j1 j2 => hg j (by omega))
    · have hbL : b ∈ L := by
        cases hi : (atT n f m C a).1.is with
        | false => rw [hi, if_neg (by decide)] at hb; exact hb
        | true =>
          rw [hi, if_pos rfl] at hb
          rcases List.mem_cons.1 hb with hb | hb
          · exact absurd hb.symm e
          · exact hb
      have hlow := hrest b hbL
      have e2 : atT n g m C a = atT n f m C a := atT_same hC k1 (fun j j1 j2 => hg j (by omega))
      have hih := ih hbL
      rw [← e2] at k1 k2 hih ⊢
      exact .cons k1 k2 hih
theorem mem_refsOf {f : Nat → Int} {a : Int} {r : Nat} {x : Int} : x ∈ refsOf f a r ↔ ∃ i : Nat, i < r ∧ f (a + 2 + i).toNat = x := by
  unfold refsOf
  rw [List.mem_map]
  exact ⟨fun ⟨i, h1, h2⟩ => ⟨i, List.mem_range.1 h1, h2⟩, fun ⟨i, h1, h2⟩ => ⟨i, List.mem_range.2 h1, h2⟩⟩
theorem LInv.setref {n m : Nat} {f : Nat → Int} {C : Nat → Cl} {L : Nat → Sp} {G : Nat → List Int} {ats : List Int} (hC : ∀ j, j < m → (C j).ok) (h : LInv n m f C L G ats) {a v : Int} (ha : a ∈ ats) {q : Int} (q0 : 0 ≤ q) (q1 : q < (objP (atT n f m C a)).1.refs) (hv : v = 0 ∨ v ∈ ats) (hvi : I64 v) :
    LInv n m (putF f (refAt a q).toNat v) C L G ats ∧ ((∀ j, j < 3 → fullJ (atT n f m C) L G j) → ∀ j, j < 3 → fullJ (atT n (putF f (refAt a q).toNat v) m C) L G j) := by
  obtain ⟨k, hk, hm, b1, b2, b3, b4, b5, b6⟩ := h.in_ hC ha
  have hob := objP_obj b3 b4
  rw [hob] at q1
  obtain ⟨_, _, c3, c4, c5, c6, c7, c8⟩ := at_ok hC b3
  have c8 := c8 b4
  have hcell : (((refAt a q).toNat : Nat) : Int) = a + 2 + q := by unfold refAt; omega
  have hg : ∀ j, j ≠ (refAt a q).toNat → putF f (refAt a q).toNat v j = f j := fun j hj => putF_ne hj
  have hRk := (rightB_iff _).1 (h.rise k hk).1
  have hT : ∀ j, j < 3 → Tiles (atT n (putF f (refAt a q).toNat v) m C) (L j).f (L j).t (G j) := fun j hj => by
    by_cases e : j = k
    · subst e
      exact (h.tile j hj).inside hC hm (c := (refAt a q).toNat) (by omega) (by omega) hg
    · refine (h.tile j hj).congr hC (fun i i1 i2 => hg i (fun e2 => ?_))
      have hRj := (rightB_iff _).1 (h.rise j hj).1
      rcases Nat.lt_trichotomy j k with s | s | s
      · have := rise_sep h.rise s hk; omega
      · exact e s
      · have := rise_sep h.rise s hj; omega
  -- each object is what it was; its references too, but for one
  have hobj : ∀ x, x ∈ ats → atT n (putF f (refAt a q).toNat v) m C x = atT n f m C x ∧ (x = a ∨ ∀ i : Nat, (i : Int) < (atT n f m C x).1.refs → putF f (refAt a q).toNat v (x + 2 + i).toNat = f (x + 2 + i).toNat) := fun x hx => by
    by_cases e : x = a
    · subst e
      exact ⟨atT_two (hg _ (by omega)) (hg _ (by omega)), .inl rfl⟩
    · obtain ⟨j, hj, hmj, d1, d2, d3, d4, d5, d6⟩ := h.in_ hC hx
      have hRj := (rightB_iff _).1 (h.rise j hj).1
      obtain ⟨_, _, e3, e4, e5, e6, e7, e8⟩ := at_ok hC d3
      have e8 := e8 d4
      have hsep : x + (atT n f m C x).1.words ≤ a ∨ a + (atT n f m C a).1.words ≤ x := by
        rcases Nat.lt_trichotomy j k with s | s | s
        · have := rise_sep h.rise s hk; omega
        · subst s
          have hs := ((h.tile j hj).walk.sep hC).2
          rcases Int.lt_trichotomy x a with s2 | s2 | s2
          · exact .inl (hs x hmj a hm s2)
          · exact absurd s2 e
          · exact .inr (hs a hm x hmj s2)
        · have := rise_sep h.rise s hj; omega
      exact ⟨atT_same hC d3 (fun i i1 i2 => hg i (by omega)), .inr (fun i hi => hg _ (by omega))⟩
  refine ⟨⟨h.rise, h.ends, hT, h.mem, h.nd, i64_putF h.i64 hvi, fun x hx y hy => ?_⟩, fun hF j hj => ?_⟩
  · obtain ⟨j, hj, hmj, d1, d2, d3, d4, d5, d6⟩ := h.in_ hC hx
    obtain ⟨o1, o2⟩ := hobj x hx
    rw [o1, objP_obj d3 d4] at hy
    obtain ⟨i, hi, rfl⟩ := mem_refsOf.1 hy
    have hold : f (x + 2 + i).toNat = 0 ∨ f (x + 2 + i).toNat ∈ ats := h.ref x hx _ (by rw [objP_obj d3 d4]; exact mem_refsOf.2 ⟨i, hi, rfl⟩)
    rcases o2 with rfl | o2
    · by_cases e : (x + 2 + i).toNat = (refAt x q).toNat
      · rw [e, putF_self]; exact hv
      · rw [hg _ e]; exact hold
    · rw [o2 i (by omega)]; exact hold
  · have := hF j hj
    unfold fullJ at this ⊢
    rw [sumW_congr (T := atT n f m C) (fun x hx => by rw [(hobj x ((h.mem x).2 ⟨j, hj, hx⟩)).1])]
    exact this
/-- What stays: rising objects, with the roots, and with what they refer to. -/
structure StayIs (n m : Nat) (f : Nat → Int) (C : Nat → Cl) (ats stay roots : List Int) : Prop where
  rise : ∀ i, i + 1 < stay.length → stay.getD i 0 < stay.getD (i + 1) 0
  inn : ∀ x, x ∈ stay → x ∈ ats
  roots : ∀ x, x ∈ roots → x = 0 ∨ x ∈ stay
  ref : ∀ a, a ∈ stay → ∀ x, x ∈ refsOf f a (objP (atT n f m C a)).1.refs.toNat → x = 0 ∨ x ∈ stay
theorem rising_strict {l : List Int} (h : Rising l) (hn : l.Nodup) : ∀ i, i + 1 < l.length → l.getD i 0 < l.getD (i + 1) 0 := fun i hi => by
  have h1 := h i hi
  have h2 : l.getD i 0 ≠ l.getD (i + 1) 0 := fun e => by
    rw [List.getD_eq_getElem?_getD, List.getD_eq_getElem?_getD, List.getElem?_eq_getElem hi, List.getElem?_eq_getElem (by omega : i < l.length)] at e
    have := (List.getElem_inj hn).1 (show l[i] = l[i + 1] from e)
    omega
  omega

end Go.Proofs.YtkjgfblkbjlohaaGreat

namespace Go.Proofs.YtkjgfblkbjlohaaGreat
open Go.RowKit

theorem used_any (s : Sp) (w : World) (h : rightB s = true) : Calls Tryz.prog 13 #[agg s] w fun e w' => e = .returned (.int .i64 (s.t - s.f)) ∧ Keeps w w' := by
  obtain ⟨q1, q2, q3, q4⟩ := (rightB_iff s).1 h
  have HR := Lib.hid (fun w => right_any s w)
  obtain ⟨f, t, en⟩ := s
  unfold agg at *
  rw [h] at HR
  clear h
  dsimp only at *
  go_enter Tryz.func13, Tryz.ntmps13
  go_wp2_with fail
  have hB : Blk (w.alloc (.cells #[.int .i64 f, .int .i64 t, .int .i64 en] 56)) w.heap.size 56 3 (spF fun _ => ⟨f, t, en⟩) :=
    Blk.made w 3 _ _ _ rfl (fun j hj => by rcases (by omega : j = 0 ∨ j = 1 ∨ j = 2) with rfl | rfl | rfl <;> rfl)
  refine (HR.out _).mono ?_
  rintro e w1 ⟨rfl, k1⟩
  have hB1 := Blk.touch hB k1 (fun h => h)
  have c0 : w1.cell? ⟨w.heap.size, 0, none⟩ = some (.int .i64 f) := hB1.cell (j := 0) (by omega)
  have c1 : w1.cell? ⟨w.heap.size, 1, none⟩ = some (.int .i64 t) := hB1.cell (j := 1) (by omega)
  go_wp2_with fail
  go_ret
  exact ⟨by go_num, Keeps.trans ((Touch.refl _ w).alloc _) k1⟩
theorem zero_spc (w : World) : (zeroValue 56).run Tryz.prog w = .ok (.agg #[.int .i64 0, .int .i64 0, .int .i64 0]) w := by kernel_rfl
theorem snew_yes (fr z : Int) (w : World) (h0 : 0 ≤ fr) (h1 : 0 ≤ z) (h2 : fr ≤ 4096) (h3 : z ≤ 4096 - fr) : Calls Tryz.prog 54 #[.int .i64 fr, .int .i64 z] w fun e w' => e = .returned (.tuple #[.agg #[.int .i64 fr, .int .i64 fr, .int .i64 (fr + z)], .int .i64 0]) ∧ Keeps w w' := by
  have hz := zero_spc
  have n1 : ¬ fr < 0 := by omega
  have n2 : ¬ z < 0 := by omega
  have n3 : ¬ 4096 < fr := by omega
  have g1 : IntKind.i64.wrap (4096 - fr) = 4096 - fr := IntWalk.i64_in _ ⟨by omega, by omega⟩
  have n4 : ¬ 4096 - fr < z := by omega
  have g2 : IntKind.i64.wrap (fr + z) = fr + z := IntWalk.i64_in _ ⟨by omega, by omega⟩
  go_enter Tryz.func54, Tryz.ntmps54
  go_wp2_with fail
  go_returns
  exact ⟨rfl, (Touch.refl _ w).alloc _⟩
/-- Where the k-th begins. -/
def offs (fr : Int) (Z : Nat → Int) : Nat → Int
  | 0 => fr
  | k + 1 => offs fr Z k + Z k
def splF (fr : Int) (Z : Nat → Int) : Nat → Sp := fun k => ⟨offs fr Z k, offs fr Z k, offs fr Z (k + 1)⟩
theorem offs_mono {fr : Int} {Z : Nat → Int} {n : Nat} (hZ : ∀ k, k < n → 0 ≤ Z k) : ∀ d k, k + d ≤ n → offs fr Z k ≤ offs fr Z (k + d)
  | 0, _, _ => Int.le_refl _
  | d + 1, k, h => by
    have h1 := offs_mono (fr := fr) hZ d k (by omega)
    have h2 := hZ (k + d) (by omega)
    show offs fr Z k ≤ offs fr Z (k + d) + Z (k + d)
    omega
set_option maxHeartbeats 1000000 in
theorem split_yes (fr : Int) (A : Option Addr) (n cap : Nat) (Z : Nat → Int) (w : World) (hr : Rd w A n (intF .i64 Z)) (hn : n ≤ 1000) (hZ : ∀ k, k < n → 0 ≤ Z k) (h0 : 0 ≤ fr) (h1 : offs fr Z n ≤ 4096) :
    Calls Tryz.prog 16 #[.int .i64 fr, .slice A n cap] w fun e w' => ∃ ad cp, e = .returned (.tuple #[.slice ad n cp, .int .i64 0]) ∧ OwnSp 56 w' w.heap.size (.slice ad n cp) (splF fr Z) n ∧ Keeps w w' := by
  have HB := Lib.hid (show ∀ k, k < n → 0 ≤ offs fr Z k ∧ 0 ≤ Z k ∧ offs fr Z k ≤ 4096 ∧ Z k ≤ 4096 - offs fr Z k from fun k hk => by
    have a := offs_mono (fr := fr) hZ (n - (k + 1)) (k + 1) (by omega)
    have b := offs_mono (fr := fr) hZ k 0 (by omega)
    rw [show k + 1 + (n - (k + 1)) = n by omega] at a
    rw [Nat.zero_add] at b
    have c := hZ k hk
    have d : offs fr Z (k + 1) = offs fr Z k + Z k := rfl
    have e : offs fr Z 0 = fr := rfl
    omega)
  clear hZ h0 h1
  go_enter Tryz.func16, Tryz.ntmps16
  go_wp2_with fail
  go_loopw [0, 6, 13] (fun f v i wr => ∃ k : Nat, k ≤ n ∧ f = .int .i64 (offs fr Z k) ∧ i = .int .i64 k ∧ OwnSp 56 wr w.heap.size v (splF fr Z) k ∧ Keeps w wr) (fun _ _ i _ => n - (intOf i).toNat)
  case atStart => exact ⟨0, Nat.zero_le _, rfl, rfl, OwnSp.nil_ _ _ _ _, Touch.refl _ _⟩
  case round =>
    obtain ⟨k, hk, rfl, rfl, hown, K⟩ := hrel
    have HO := Lib.hid hown
    by_cases hlt : k < n
    · obtain ⟨b, off, rfl, d0⟩ := (hr.keep K).one hlt
      have d1 : wr.cell? ⟨b, off + k, none⟩ = some (.int .i64 (Z k)) := d0
      obtain ⟨b0, b1, b2, b3⟩ := HB.out k hlt
      have HS := Lib.hid (show splF fr Z k = ⟨offs fr Z k, offs fr Z k, offs fr Z k + Z k⟩ from rfl)
      have HS1 := Lib.hid (show offs fr Z (k + 1) = offs fr Z k + Z k from rfl)
      clear d0 hown
      have hk' : k ≤ 1000000 := by omega
      generalize offs fr Z k = x at *
      generalize Z k = y at *
      go_wp2_with fail
      refine Calls.mono (snew_yes x y _ b0 b1 b2 b3) ?_
      rintro e w2 ⟨rfl, k2⟩
      have hsz := K.size
      have hs2 := k2.size
      have HO2 := Lib.hid ((HO.out.touch k2 (fun _ _ h => h)).touch ((Touch.refl (fun _ => False) w2).alloc (.cells #[.int .i64 x, .int .i64 x, .int .i64 (x + y)] 56)) (fun _ _ h => h))
      have hm := BL.new1 w2 56 _ [.int .i64 x, .int .i64 x, .int .i64 (x + y)] w2.heap.size rfl rfl
      have K3 : Keeps w (w2.alloc (.cells #[.int .i64 x, .int .i64 x, .int .i64 (x + y)] 56)) := Touch.alloc (Keeps.trans K k2) _
      have hm2 := BL.new1 (w2.alloc (.cells #[.int .i64 x, .int .i64 x, .int .i64 (x + y)] 56)) 56 _ [.int .i64 x, .int .i64 x, .int .i64 (x + y)] (w2.heap.size + 1) (by simp) rfl
      have e0 := hm2.c 0 _ rfl
      have e1 := hm2.c 1 _ rfl
      have e2 := hm2.c 2 _ rfl
      clear hr
      go_wp2_with (at_builtin; refine app_sp Tryz.underlying33 info_sp rfl (.tmp 26) (.tmp 28) rfl w.heap.size _ (splF fr Z) k (World.ownsRow.alloc HO2.out _) rfl (w2.heap.size + 1) rfl (by rw [HS.out]; exact e0) (by rw [HS.out]; exact e1) (by rw [HS.out]; exact e2) hk' (by simp; omega) ?_)
      intro v' w5 hown1 g1 a1
      have LT := HO2.out.lt
      have K5 := Touch.grown (Touch.alloc K3 (.cells #[.int .i64 x, .int .i64 x, .int .i64 (x + y)] 56)) g1 (fun q e hq => by have := (LT q e).1; omega)
      have hm5 := BL.grown (BL.alloc hm _) g1 (fun e => by have := (HO.out.lt _ e).2; omega)
      have c5 := hm5.c 2 _ rfl
      have HO5 := Lib.hid hown1
      clear a1 g1 hown1 LT e0 e1 e2 hm hm2
      go_wp2_with fail
      go_roundw
      case rel => exact ⟨k + 1, by omega, by rw [HS1.out], by go_num, HO5.out, K5⟩
      case measure => simp [intOf]; omega
    · obtain rfl : k = n := by omega
      obtain ⟨ad, cp, hv⟩ := hown.form
      subst hv
      clear hown
      go_wp2_with fail
      go_returns
      exact ⟨ad, cp, rfl, HO.out, K⟩

end Go.Proofs.YtkjgfblkbjlohaaGreat
