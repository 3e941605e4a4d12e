/- plot.Draw by contract. -/
import Derived.Test.YtnpmadnihheahaaPlotG
import Derived.Test.YtnpmadnihheahaaRep
import Derived.Lib.ConvBytes
import Derived.Laws.BytesArg
import Derived.Laws.MakeOwn
import Derived.Deep.RegionHeld3
namespace Go.Proofs.Ytnpmadnihheahaa
open Go.RowKit

theorem info_str : (Try.prog.info? 9).map (fun i => (i.zero, i.size, i.bytes)) = some (some (.string ByteArray.empty), 1, 16) := by kernel_rfl
def strs (l : List ByteArray) : List Value := l.map Value.string
theorem strs_snoc (l : List ByteArray) (x : ByteArray) : strs (l ++ [x]) = strs l ++ [.string x] := by simp [strs]
/-- A list of strings of the call's own. -/
def OwnStrs (w : World) (base : Nat) (v : Value) (l : List ByteArray) : Prop := w.ownsRow base 9 1 v l.length (strs l)
theorem OwnStrs.nil_ (w : World) (base : Nat) : OwnStrs w base (.slice none 0 0) [] := World.ownsRow_nil _ _ _ _
theorem OwnStrs.form {w : World} {base : Nat} {v : Value} {l : List ByteArray} (h : OwnStrs w base v l) : ∃ ad cap, v = .slice ad l.length cap := by
  rcases h.2 with ⟨rfl, h0⟩ | ⟨g, cap, cur, rfl, _⟩
  · exact ⟨none, 0, by rw [h0]⟩
  · exact ⟨_, _, rfl⟩
theorem OwnStrs.lt {w : World} {base : Nat} {v : Value} {l : List ByteArray} (h : OwnStrs w base v l) : ∀ k, v.ownBlock = some k → base ≤ k ∧ k < w.heap.size := World.ownsRow.lt h
theorem OwnStrs.touch {w w' : World} {base : Nat} {v : Value} {l : List ByteArray} {S : Nat → Prop} (h : OwnStrs w base v l) (ht : Touch S w w') (hs : ∀ k, v.ownBlock = some k → ¬ S k) : OwnStrs w' base v l := by
  unfold OwnStrs at *
  refine ⟨h.1, ?_⟩
  rcases h.2 with hn | ⟨g, cap, cur, rfl, hb, hgg, rest⟩
  · exact .inl hn
  · refine .inr ⟨g, cap, cur, rfl, hb, ?_, rest⟩
    rw [ht.block g (Array.getElem?_eq_some_iff.1 hgg).1 (hs g rfl)]
    exact hgg
theorem OwnStrs.alloc {w : World} {base : Nat} {v : Value} {l : List ByteArray} (h : OwnStrs w base v l) (o : Obj) : OwnStrs (w.alloc o) base v l := World.ownsRow.alloc h o
def strF (L : Nat → ByteArray) : Nat → Value := fun j => .string (L j)
theorem OwnStrs.rd {w : World} {base : Nat} {ad : Option Addr} {cap : Nat} {l : List ByteArray} (h : OwnStrs w base (.slice ad l.length cap) l) :
    Rd w ad l.length (strF fun j => l.getD j ByteArray.empty) := by
  intro hn
  rcases h.2 with ⟨_, h0⟩ | ⟨g, cap', cur, hv, hb, hgg, _⟩
  · omega
  · simp only [Value.slice.injEq] at hv
    obtain ⟨rfl, _, _⟩ := hv
    refine ⟨g, 0, rfl, (Array.getElem?_eq_some_iff.1 hgg).1, fun j hj => ?_⟩
    have hc := World.ownsRow.cells h (g := g) rfl j (.string (l.getD j ByteArray.empty)) (by simp [strs, hj])
    rw [add_plain] at hc
    exact hc
/-- One string more. -/
theorem app_str {ops : Array Oper} {rest : List Oper} {o : Oper} {a : Act} {Q : Exit → Act → World → Prop} {w : World} (hgd : o.guard = none) (s x : Operand)
    (ho : o.op = .call { callee := .builtin .append, args := #[s, x], argTypes := #[43, 43] })
    (base : Nat) (v : Value) (l : List ByteArray) (hown : OwnStrs w base v l) (hs : a.eval s = v) (N : Nat) (y : ByteArray) (hx : a.eval x = .slice (some ⟨N, 0, none⟩) 1 1)
    (hc : w.cell? ⟨N, 0, none⟩ = some (.string y)) (hl : l.length ≤ 1000000) (hbase : base ≤ w.heap.size)
    (h : ∀ v' w', OwnStrs w' base v' (l ++ [y]) → w.grownBy w' v.ownBlock → (v'.ownBlock = v.ownBlock ∨ v'.ownBlock = some w.heap.size) → wpList Try.prog ops Q rest (a.put o.dst v') w') :
    wpList Try.prog ops Q (o :: rest) a w := by
  obtain ⟨i0, hi, hz0, hz1, hz2⟩ := info_parts info_str
  refine wpList_append_own_at w hgd s x _ ho base 9 i0 (.string ByteArray.empty) 1 16 Try.underlying43 hi hz0 hz1 hz2 rfl (by decide) v l.length (strs l) hs hown ⟨N, 0, none⟩ 1 1 [.string y] hx rfl ?_ ?_ ?_ ?_ hbase ?_
  · intro j u hu
    cases j with
    | zero => simp at hu; subst hu; rw [add_zero_]; exact hc
    | succ j => simp at hu
  · simp [Value.oneCell']
  · unfold maxLen; omega
  · omega
  · intro v' w' h1 h2 _ h4
    refine h v' w' ?_ h2 h4
    unfold OwnStrs
    rw [strs_snoc, List.length_append]
    exact h1

/-- The cells that are drawn; the lines. -/
def cutS (s : ByteArray) : ByteArray := s.extract 0 (min s.size 4096)
theorem cutS_size (s : ByteArray) : (cutS s).size = min s.size 4096 := by
  unfold cutS
  rw [ByteArray.size_extract]
  omega
def cnt (t : ByteArray) : Nat := if t.size = 0 then 0 else hei (bxN t.size)
def lnS (t : ByteArray) (r : Nat) : ByteArray := strOfNums (row (byt t) t.size (bxN t.size) r)
def lns (t : ByteArray) (k : Nat) : List ByteArray := (List.range k).map (lnS t)

theorem bytes_keeps (w : World) (e : TypeId) (s : ByteArray) : Keeps w (Lib.bytesWorld w e s) := by
  refine ⟨?_, ?_, ?_, by rw [Lib.bytesWorld_size]; omega, fun k hk _ => Lib.bytesWorld_at_old w e s k hk⟩ <;> rfl
theorem bytes_row (w : World) (e : TypeId) (s : ByteArray) : RowB (Lib.bytesWorld w e s) w.heap.size s.size (byt s) := by
  refine ⟨_, _, _, _, Lib.bytesWorld_at_new w e s, ?_, fun j hj => ?_, fun j hj => ?_⟩
  · simp [Lib.bytesCells]
  · have : s.size ≤ (Lib.bytesCells w e s).size := by simp [Lib.bytesCells]
    omega
  · have hj' : j < s.data.toList.length := by simpa using hj
    rw [Lib.bytesCells, Array.getElem?_append_left (by simpa using hj)]
    simp [byt, List.getD, hj]
theorem byt_rep (n j : Nat) (h : j < n) : byt ⟨(Lib.repeatL [32] n).toArray⟩ j = 32 := by
  have key : ∀ n j, j < n → (Lib.repeatL [32] n).getD j 0 = 32 := by
    intro n
    induction n with
    | zero => intro j h; omega
    | succ n ih =>
      intro j h
      cases j with
      | zero => rfl
      | succ j => simpa [Lib.repeatL] using ih j (by omega)
  unfold byt
  show (((Lib.repeatL [32] n).getD j 0).toNat : Int) = 32
  rw [key n j h]
  rfl
theorem rep_size (n : Nat) : (⟨(Lib.repeatL [32] n).toArray⟩ : ByteArray).size = n := by
  simp [ByteArray.size, Lib.repeatL_length]
theorem rep_len (n : Nat) : (Lib.repeatL [32] n).length = n := by rw [Lib.repeatL_length]; simp
theorem Grid.more {w w3 : World} {bl H W q : Nat} {br cp : Nat → Nat} (h : Grid w bl H W br cp (fun _ _ => 32) q) (hq : q < H) (k : Keeps w w3) (str : ByteArray) (hs : str.size = W) (hb : ∀ j, j < W → byt str j = 32) (c : Nat) (t : TypeId) :
    Grid ((Lib.bytesWorld w3 t str).setCell ⟨bl, q, none⟩ (.slice (some ⟨w3.heap.size, 0, none⟩) W c)) bl H W (fun r => if r = q then w3.heap.size else br r) (fun r => if r = q then c else cp r) (fun _ _ => 32) (q + 1) := by
  have k2 : Keeps w (Lib.bytesWorld w3 t str) := Keeps.trans k (bytes_keeps w3 t str)
  have hbl := h.head.lt
  have hsz := k.size
  have k3 : Only bl (Lib.bytesWorld w3 t str) ((Lib.bytesWorld w3 t str).setCell ⟨bl, q, none⟩ (.slice (some ⟨w3.heap.size, 0, none⟩) W c)) := (Only.refl bl _).set _ _
  refine ⟨?_, fun r hr => ?_, fun r r' hr hr' e => ?_, fun r hr => ?_⟩
  · refine ((Blk.touch h.head k2 (fun h => h)).set q _).congr fun j hj => ?_
    unfold upd
    by_cases e : j = q
    · subst e; simp
    · by_cases h1 : j < q
      · have h2 : j < q + 1 := by omega
        simp [e, h1, h2]
      · have h2 : ¬ j < q + 1 := by omega
        simp [e, h1, h2]
  · by_cases e : r = q
    · subst e
      rw [if_pos rfl]
      have := bytes_row w3 t str
      rw [hs] at this
      exact (this.touch k3 (by omega)).congr hb
    · rw [if_neg e]
      exact ((h.each r (by omega)).touch k2 (fun h => h)).touch k3 (h.off r (by omega))
  · by_cases e1 : r = q
    · by_cases e2 : r' = q
      · omega
      · rw [if_pos e1, if_neg e2] at e
        have := (h.each r' (by omega)).lt
        omega
    · by_cases e2 : r' = q
      · rw [if_neg e1, if_pos e2] at e
        have := (h.each r (by omega)).lt
        omega
      · rw [if_neg e1, if_neg e2] at e
        exact h.inj r r' (by omega) (by omega) e
  · by_cases e : r = q
    · rw [if_pos e]; omega
    · rw [if_neg e]; exact h.off r (by omega)
theorem und_str : Try.prog.underlying 9 = some .string := by kernel_rfl
theorem und_bs : Try.prog.underlying 49 = some (.slice 5) := by kernel_rfl
theorem und_u8 : Try.prog.underlying 5 = some (.int .u8) := by kernel_rfl
theorem info_bs : (Try.prog.info? 49).map (fun i => (i.zero, i.size, i.bytes)) = some (some (.slice none 0 0), 1, 24) := by kernel_rfl
theorem make_rows (n : Nat) (h : n ≤ 1000) (w : World) : (Instr.makeSlice 56 (.int .i64 (n : Int)) (.int .i64 (n : Int))).run Try.prog w = .ok (.slice (some ⟨w.heap.size, 0, none⟩) n n) (w.alloc (.cells (Array.replicate n (.slice none 0 0)) 49)) := by
  obtain ⟨i0, hi, hz0, hz1, hz2⟩ := info_parts info_bs
  have h1 := run_make (P := Try.prog) w 56 49 i0 (.slice none 0 0) (by kernel_rfl) hi hz0 .i64 .i64 (n : Int) (n : Int) (by omega) (Int.le_refl _) (by rw [hz2]; omega) (by omega)
  rw [h1, hz1]
  have e : madeCells (Value.slice none 0 0).cells ((n : Int).toNat * 1) = Array.replicate n (.slice none 0 0) := by
    apply Array.ext
    · simp [madeCells]
    · intro j h1 h2
      have e2 : j % 1 = 0 := by omega
      simp [madeCells, Value.cells, e2]
  rw [e]
  simp

set_option maxRecDepth 100000 in
set_option maxHeartbeats 4000000 in
theorem draw_any (s : ByteArray) (w : World) (hs : s.size ≤ 9223372036854775807) :
    Calls Try.prog 17 #[.string s] w fun e w' => ∃ ad cp, e = .returned (.slice ad (cnt (cutS s)) cp) ∧ Rd w' ad (cnt (cutS s)) (strF (lnS (cutS s))) ∧ Keeps w w' := by
  have hsz := cutS_size s
  have hz := zero_box
  have e1 : s.extract 0 (min s.size 4096) = cutS s := rfl
  have hmn : ∀ ts t w, (Builtin.min_ ts t #[.int .i64 (s.size : Int), .int .i64 4096]).run Try.prog w = .ok (.int .i64 ((min s.size 4096 : Nat) : Int)) w := fun ts t w => by
    rw [run_mn]
    unfold mn
    congr 3
    split <;> omega
  have HE1 := Lib.hid e1
  have HE2 := Lib.hid hsz.symm
  clear e1
  by_cases h0 : (cutS s).size = 0
  · have hie : (s.extract 0 (min s.size 4096)).toList.isEmpty = true := by
      rw [HE1.out, ByteArray.toList_eq, List.isEmpty_iff_length_eq_zero]
      simpa using h0
    have HC : Hid (cnt (cutS s) = 0) := if_pos h0
    clear h0 hsz
    go_enter Try.func17, Try.ntmps17
    go_wp2_with fail
    go_ret
    rw [HC.out]
    exact ⟨none, 0, rfl, (fun h => absurd h (Nat.lt_irrefl _)), (Touch.refl _ w).alloc _⟩
  · have hie : (s.extract 0 (min s.size 4096)).toList.isEmpty = false := by
      rw [HE1.out, ByteArray.toList_eq]
      cases hl : (cutS s).data.toList with
      | nil => exact absurd (by have := congrArg List.length hl; simpa using this) h0
      | cons a l => rfl
    have hb : (cutS s).size ≤ 4096 := by omega
    have HCT := Lib.hid (show cnt (cutS s) = hei (bxN (cutS s).size) from if_neg h0)
    obtain ⟨o1, o2, o3, o4, o5, o6, o7, o8⟩ := bx_ok (cutS s).size (by omega)
    have hH : hei (bxN (cutS s).size) ≤ 65 := by unfold hei; omega
    have hH1 : (bxN (cutS s).size).u - (bxN (cutS s).size).d + 1 = (hei (bxN (cutS s).size) : Int) := by unfold hei; omega
    have hW1 : (bxN (cutS s).size).r - (bxN (cutS s).size).l + 1 = (wid (bxN (cutS s).size) : Int) := by unfold wid; omega
    have HWP := Lib.hid (show IntKind.i64.wrap (IntKind.i64.wrap ((bxN (cutS s).size).r - (bxN (cutS s).size).l) + 1) = (wid (bxN (cutS s).size) : Int) by
      rw [IntWalk.i64_in ((bxN (cutS s).size).r - (bxN (cutS s).size).l) ⟨by omega, by omega⟩, IntWalk.i64_in _ ⟨by omega, by omega⟩]; exact hW1)
    have hW : wid (bxN (cutS s).size) ≤ 65 := by unfold wid; omega
    clear hsz
    have hmk := make_rows (hei (bxN (cutS s).size)) (by omega)
    go_enter Try.func17, Try.ntmps17
    go_wp2_with fail
    rw [HE1.out, HE2.out]
    refine (around_any (cutS s).size _ hb).mono ?_
    rintro e w1 ⟨rfl, k1⟩
    unfold bxV
    go_wp2_with fail
    have K0 : Keeps w w1 := Keeps.trans ((Touch.refl _ w).alloc _) k1
    have g0 : w1.cell? ⟨w.heap.size, 0, none⟩ = some (.string (cutS s)) := by
      exact (World.cell?_of_block (k1.block _ (by simp) (fun h => h))).trans (cell_of_row _ _ 0 _ _ _ (heap_alloc_new w _))
    have hbc : w.heap.size < w1.heap.size := by have := k1.size; simp at this; omega
    have Bb := Blk.made w1 4 54 (bxF (bxN (cutS s).size)) #[.int .i64 (bxN (cutS s).size).l, .int .i64 (bxN (cutS s).size).r, .int .i64 (bxN (cutS s).size).d, .int .i64 (bxN (cutS s).size).u] rfl (fun j hj => by rcases (by omega : j = 0 ∨ j = 1 ∨ j = 2 ∨ j = 3) with rfl | rfl | rfl | rfl <;> rfl)
    have Bl := Blk.made (w1.alloc (.cells #[.int .i64 (bxN (cutS s).size).l, .int .i64 (bxN (cutS s).size).r, .int .i64 (bxN (cutS s).size).d, .int .i64 (bxN (cutS s).size).u] 54)) (hei (bxN (cutS s).size)) 49 (fun _ => .slice none 0 0) (Array.replicate (hei (bxN (cutS s).size)) (.slice none 0 0)) (by simp) (fun j hj => by simp [hj])
    rw [World.size_alloc] at Bl
    have Bb2 := (Bb.alloc (.cells (Array.replicate (hei (bxN (cutS s).size)) (.slice none 0 0)) 49)).alloc (.cells #[.slice (some ⟨w1.heap.size + 1, 0, none⟩) (hei (bxN (cutS s).size)) (hei (bxN (cutS s).size))] 56)
    have Bl2 := Bl.alloc (.cells #[.slice (some ⟨w1.heap.size + 1, 0, none⟩) (hei (bxN (cutS s).size)) (hei (bxN (cutS s).size))] 56)
    have g1 := cell_new ((w1.alloc (.cells #[.int .i64 (bxN (cutS s).size).l, .int .i64 (bxN (cutS s).size).r, .int .i64 (bxN (cutS s).size).d, .int .i64 (bxN (cutS s).size).u] 54)).alloc (.cells (Array.replicate (hei (bxN (cutS s).size)) (.slice none 0 0)) 49)) (.slice (some ⟨w1.heap.size + 1, 0, none⟩) (hei (bxN (cutS s).size)) (hei (bxN (cutS s).size))) 56 (w1.heap.size + 1 + 1) (by simp)
    have KA := (((Touch.refl (fun _ => False) w1).alloc (.cells #[.int .i64 (bxN (cutS s).size).l, .int .i64 (bxN (cutS s).size).r, .int .i64 (bxN (cutS s).size).d, .int .i64 (bxN (cutS s).size).u] 54)).alloc (.cells (Array.replicate (hei (bxN (cutS s).size)) (.slice none 0 0)) 49)).alloc (.cells #[.slice (some ⟨w1.heap.size + 1, 0, none⟩) (hei (bxN (cutS s).size)) (hei (bxN (cutS s).size))] 56)
    have g2 := (World.cell?_of_block (KA.block w.heap.size hbc (fun h => h))).trans g0
    have hszA : (((w1.alloc (.cells #[.int .i64 (bxN (cutS s).size).l, .int .i64 (bxN (cutS s).size).r, .int .i64 (bxN (cutS s).size).d, .int .i64 (bxN (cutS s).size).u] 54)).alloc (.cells (Array.replicate (hei (bxN (cutS s).size)) (.slice none 0 0)) 49)).alloc (.cells #[.slice (some ⟨w1.heap.size + 1, 0, none⟩) (hei (bxN (cutS s).size)) (hei (bxN (cutS s).size))] 56)).heap.size = w1.heap.size + 1 + 1 + 1 := by simp
    have KW := Keeps.trans K0 KA
    clear Bb Bl g0 K0 KA k1 hmn hmk hz hie HE1 HE2 o1 o2 o3 o4 o5 o6 o7 o8
    generalize (((w1.alloc (.cells #[.int .i64 (bxN (cutS s).size).l, .int .i64 (bxN (cutS s).size).r, .int .i64 (bxN (cutS s).size).d, .int .i64 (bxN (cutS s).size).u] 54)).alloc (.cells (Array.replicate (hei (bxN (cutS s).size)) (.slice none 0 0)) 49)).alloc (.cells #[.slice (some ⟨w1.heap.size + 1, 0, none⟩) (hei (bxN (cutS s).size)) (hei (bxN (cutS s).size))] 56)) = wA at *
    have x1 : w.heap.size ≠ w1.heap.size := by omega
    have x2 : w.heap.size ≠ w1.heap.size + 1 := by omega
    have x3 : w1.heap.size + 1 + 1 ≠ w1.heap.size + 1 := by omega
    have x4 : w1.heap.size ≠ w1.heap.size + 1 := by omega
    have y0 : w.heap.size < wA.heap.size := by omega
    have y1 : w1.heap.size < wA.heap.size := by omega
    have y2 : w1.heap.size + 1 < wA.heap.size := by omega
    have y3 : w1.heap.size + 1 + 1 < wA.heap.size := by omega
    have y4 : w.heap.size ≤ w1.heap.size + 1 := by omega
    clear hszA hbc
    generalize w1.heap.size + 1 + 1 = blc at *
    generalize w1.heap.size + 1 = bl at *
    generalize w1.heap.size = bb at *
    obtain ⟨bc, hbc⟩ : ∃ bc, w.heap.size = bc := ⟨_, rfl⟩
    rw [hbc] at g2 x1 x2 y0 ⊢
    have HBC := Lib.hid hbc
    clear hbc
    go_loopw [28] (fun i wr => ∃ (q : Nat) (br cp : Nat → Nat), q ≤ hei (bxN (cutS s).size) ∧ i = .int .i64 q ∧ Grid wr bl (hei (bxN (cutS s).size)) (wid (bxN (cutS s).size)) br cp (fun _ _ => 32) q ∧ (∀ r, r < q → wA.heap.size ≤ br r) ∧ Only bl wA wr) (fun i _ => hei (bxN (cutS s).size) - (intOf i).toNat)
    case atStart => exact ⟨0, fun _ => 0, fun _ => 0, Nat.zero_le _, rfl, ⟨Bl2.congr (fun _ _ => rfl), fun r h => absurd h (Nat.not_lt_zero _), fun r _ h => absurd h (Nat.not_lt_zero _), fun r h => absurd h (Nat.not_lt_zero _)⟩, fun r h => absurd h (Nat.not_lt_zero _), Only.refl bl wA⟩
    case round =>
      obtain ⟨q, br, cp, hq, rfl, hG, hbr, hO⟩ := hrel
      by_cases hlt : q < hei (bxN (cutS s).size)
      · have HK := Lib.hid (fun w' (ht : Only bl wr w') => (⟨(World.cell?_of_block ((hO.trans ht (fun _ h _ => h)).block blc y3 x3)).trans g1, ((Bb2.touch (hO.trans ht (fun _ h _ => h)) x4).cell (j := 1) (by omega)), ((Bb2.touch (hO.trans ht (fun _ h _ => h)) x4).cell (j := 0) (by omega))⟩ : w'.cell? ⟨blc, 0, none⟩ = some (.slice (some ⟨bl, 0, none⟩) (hei (bxN (cutS s).size)) (hei (bxN (cutS s).size))) ∧ w'.cell? ⟨bb, 1, none⟩ = some (.int .i64 (bxN (cutS s).size).r) ∧ w'.cell? ⟨bb, 0, none⟩ = some (.int .i64 (bxN (cutS s).size).l)))
        have hcv : ∀ w', (convert 9 49 (.string ⟨(Lib.repeatL [32] (wid (bxN (cutS s).size))).toArray⟩)).run Try.prog w' = .ok (.slice (some ⟨w'.heap.size, 0, none⟩) (⟨(Lib.repeatL [32] (wid (bxN (cutS s).size))).toArray⟩ : ByteArray).size (grownCap w' (⟨(Lib.repeatL [32] (wid (bxN (cutS s).size))).toArray⟩ : ByteArray).size 0 5)) (Lib.bytesWorld w' 5 ⟨(Lib.repeatL [32] (wid (bxN (cutS s).size))).toArray⟩) :=
          fun w' => Lib.run_convert_string_bytes w' _ _ _ _ und_str und_bs und_u8
        go_wp2_with fail
        next =>
                -- region 9
                refine wp_region_noPanic ?_
                refine wp_region_held_drew (S := (fun w' => Only bl wr w' ∧ ∃ g, Blk w' bl 49 (hei (bxN (cutS s).size)) g)) (by kernel_rfl) ⟨(Only.refl bl wr).drew, _, hG.head.drew⟩ (fun hHeld => ?_)
                refine' wpAnyH_take (i := 0) ?hi0 ?hs0 ?hf0 ?hr0 ?hQ0 ?hy0 (by assumption) ?rest0
                case hi0 => simp only [List.getElem?_toArray, List.getElem?_cons_zero]; rfl
                case hs0 => kernel_rfl
                case hf0 => kernel_rfl
                case hr0 => kernel_rfl
                case hQ0 => exact fun _ _ _ h => h
                case hy0 => exact Or.inl ⟨by rfl, fun w hSw => by obtain ⟨f1, f2, f3⟩ := HK.out _ hSw.1; go_simp; try with_reducible rfl⟩
                simp only [Act.put, List.setIfInBounds_toArray, List.set_cons_zero, List.set_cons_succ]
                refine' wpAnyH_take (i := 1) ?hi1 ?hs1 ?hf1 ?hr1 ?hQ1 ?hy1 (by assumption) ?rest1
                case hi1 => simp only [List.getElem?_toArray, List.getElem?_cons_succ, List.getElem?_cons_zero]; rfl
                case hs1 => kernel_rfl
                case hf1 => kernel_rfl
                case hr1 => kernel_rfl
                case hQ1 => exact fun _ _ _ h => h
                case hy1 => exact Or.inl ⟨by rfl, fun w hSw => by go_simp; try with_reducible rfl⟩
                simp only [Act.put, List.setIfInBounds_toArray, List.set_cons_zero, List.set_cons_succ]
                refine' wpAnyH_take (i := 2) ?hi2 ?hs2 ?hf2 ?hr2 ?hQ2 ?hy2 (by assumption) ?rest2
                case hi2 => simp only [List.getElem?_toArray, List.getElem?_cons_succ, List.getElem?_cons_zero]; rfl
                case hs2 => kernel_rfl
                case hf2 => kernel_rfl
                case hr2 => kernel_rfl
                case hQ2 => exact fun _ _ _ h => h
                case hy2 => exact Or.inl ⟨by rfl, fun w hSw => by go_simp; try with_reducible rfl⟩
                simp only [Act.put, List.setIfInBounds_toArray, List.set_cons_zero, List.set_cons_succ]
                refine' wpAnyH_take (i := 3) ?hi3 ?hs3 ?hf3 ?hr3 ?hQ3 ?hy3 (by assumption) ?rest3
                case hi3 => simp only [List.getElem?_toArray, List.getElem?_cons_succ, List.getElem?_cons_zero]; rfl
                case hs3 => kernel_rfl
                case hf3 => kernel_rfl
                case hr3 => kernel_rfl
                case hQ3 => exact fun _ _ _ h => h
                case hy3 => exact Or.inl ⟨by rfl, fun w hSw => by obtain ⟨f1, f2, f3⟩ := HK.out _ hSw.1; go_simp; try with_reducible rfl⟩
                simp only [Act.put, List.setIfInBounds_toArray, List.set_cons_zero, List.set_cons_succ]
                refine' wpAnyH_take (i := 4) ?hi4 ?hs4 ?hf4 ?hr4 ?hQ4 ?hy4 (by assumption) ?rest4
                case hi4 => simp only [List.getElem?_toArray, List.getElem?_cons_succ, List.getElem?_cons_zero]; rfl
                case hs4 => kernel_rfl
                case hf4 => kernel_rfl
                case hr4 => kernel_rfl
                case hQ4 => exact fun _ _ _ h => h
                case hy4 => exact Or.inl ⟨by rfl, fun w hSw => by go_simp; try with_reducible rfl⟩
                simp only [Act.put, List.setIfInBounds_toArray, List.set_cons_zero, List.set_cons_succ]
                refine' wpAnyH_take (i := 5) ?hi5 ?hs5 ?hf5 ?hr5 ?hQ5 ?hy5 (by assumption) ?rest5
                case hi5 => simp only [List.getElem?_toArray, List.getElem?_cons_succ, List.getElem?_cons_zero]; rfl
                case hs5 => kernel_rfl
                case hf5 => kernel_rfl
                case hr5 => kernel_rfl
                case hQ5 => exact fun _ _ _ h => h
                case hy5 => exact Or.inl ⟨by rfl, fun w hSw => by obtain ⟨f1, f2, f3⟩ := HK.out _ hSw.1; go_simp; try with_reducible rfl⟩
                simp only [Act.put, List.setIfInBounds_toArray, List.set_cons_zero, List.set_cons_succ]
                refine' wpAnyH_take (i := 6) ?hi6 ?hs6 ?hf6 ?hr6 ?hQ6 ?hy6 (by assumption) ?rest6
                case hi6 => simp only [List.getElem?_toArray, List.getElem?_cons_succ, List.getElem?_cons_zero]; rfl
                case hs6 => kernel_rfl
                case hf6 => kernel_rfl
                case hr6 => kernel_rfl
                case hQ6 => exact fun _ _ _ h => h
                case hy6 => exact Or.inl ⟨by rfl, fun w hSw => by go_simp; try with_reducible rfl⟩
                simp only [Act.put, List.setIfInBounds_toArray, List.set_cons_zero, List.set_cons_succ]
                refine' wpAnyH_take (i := 7) ?hi7 ?hs7 ?hf7 ?hr7 ?hQ7 ?hy7 (by assumption) ?rest7
                case hi7 => simp only [List.getElem?_toArray, List.getElem?_cons_succ, List.getElem?_cons_zero]; rfl
                case hs7 => kernel_rfl
                case hf7 => kernel_rfl
                case hr7 => kernel_rfl
                case hQ7 => exact fun _ _ _ h => h
                case hy7 => exact Or.inl ⟨by rfl, fun w hSw => by go_simp; try with_reducible rfl⟩
                simp only [Act.put, List.setIfInBounds_toArray, List.set_cons_zero, List.set_cons_succ]
                refine wpAnyH_ready (rs := [8]) (by kernel_rfl) (by simp) ?_
                refine AllReadyH.cons rfl (fun K hK => ?_) AllReadyH.nil
                go_simp
                rw [HWP.out]
                refine (repeat_any ⟨#[32]⟩ (wid (bxN (cutS s).size)) _ (by omega) (by show 1 * _ ≤ _; omega)).mono ?_
                rintro e w3 ⟨rfl, hbel⟩
                go_wp2_with fail
                have k3 : Keeps _ w3 := Touch.ofBelow hbel (fun k h1 h2 => by omega)
                clear hbel
                refine hK.out _ _ ⟨hHeld.1.keep k3, _, hHeld.2.choose_spec.touch k3 (fun h => h)⟩ (fun hHeld => ?_)
                clear hK K
                refine wpAnyH_ready (rs := [9]) (by kernel_rfl) (by simp) ?_
                refine AllReadyH.cons rfl (fun K hK => ?_) AllReadyH.nil
                go_simp
                refine hK.out _ _ ⟨hHeld.1.keep (bytes_keeps _ _ _), _, hHeld.2.choose_spec.touch (bytes_keeps _ _ _) (fun h => h)⟩ (fun hHeld => ?_)
                clear hK K
                refine' wpAnyH_take (i := 10) ?hi10 ?hs10 ?hf10 ?hr10 ?hQ10 ?hy10 (by assumption) ?rest10
                case hi10 => simp only [List.getElem?_toArray, List.getElem?_cons_succ, List.getElem?_cons_zero]; rfl
                case hs10 => kernel_rfl
                case hf10 => kernel_rfl
                case hr10 => kernel_rfl
                case hQ10 => exact fun _ _ _ h => h
                case hy10 => exact Or.inl ⟨by rfl, fun w hSw => by go_simp; try with_reducible rfl⟩
                simp only [Act.put, List.setIfInBounds_toArray, List.set_cons_zero, List.set_cons_succ]
                refine wpAnyH_ready (rs := [11]) (by kernel_rfl) (by simp) ?_
                refine AllReadyH.cons rfl (fun K hK => ?_) AllReadyH.nil
                obtain ⟨g, hg⟩ := hHeld.2
                have s1 := hg.cell hlt
                have s2 := hg.frozen q
                go_simp
                refine hK.out _ _ ⟨hHeld.1.set _ _, _, hg.set _ _⟩ (fun hHeld => ?_)
                clear hK K
                refine wpAnyH_done (by kernel_rfl) ?_ _
                refine NoPanic.normal ?_
                -- behind region 9
                have hszw := hO.size
                have hsz3 := k3.size
                have hm := hG.more hlt (Keeps.trans (Touch.refl _ wr).drew k3) ⟨(Lib.repeatL [32] (wid (bxN (cutS s).size))).toArray⟩ (rep_size _) (byt_rep _) (grownCap w3 (wid (bxN (cutS s).size)) 0 5) 5
                have HMO := Lib.hid hm
                have hOn := ((Touch.trans hO (Touch.refl (fun _ => False) wr).drew (fun _ h _ => h.elim)).keep k3).keep (bytes_keeps w3 5 ⟨(Lib.repeatL [32] (wid (bxN (cutS s).size))).toArray⟩)
                have HON := Lib.hid hOn
                have HRL := Lib.hid (rep_len (wid (bxN (cutS s).size)))
                clear hm hOn hHeld hg s1 s2 k3
                rw [HRL.out]
                go_wp2_with fail
                go_roundw
                case rel =>
                  refine ⟨q + 1, _, _, by omega, by go_num, HMO.out, fun r hr => ?_, HON.out.set _ _⟩
                  by_cases e : r = q
                  · rw [if_pos e]; simp at hsz3; omega
                  · rw [if_neg e]; exact hbr r (by omega)
                case measure => simp [intOf]; omega
      · obtain rfl : q = hei (bxN (cutS s).size) := by omega
        have hn1 : ∀ k, k < wA.heap.size → ¬ InRows br (hei (bxN (cutS s).size)) k := fun k hk ⟨r, h1, h2⟩ => by have := hbr r h1; omega
        have hbcl : bc ≠ bl := x2
        have hI : DrI bc blc bb (cutS s) bl br cp (bxN (cutS s).size) 0 wr :=
          ⟨(World.cell?_of_block (hO.block bc y0 hbcl)).trans g2, (World.cell?_of_block (hO.block blc y3 x3)).trans g1, Bb2.touch hO x4, by rw [Nat.zero_min]; exact hG⟩
        have K1 : Keeps w wr := KW.new hO y4
        have hszw := hO.size
        clear hG g1 g2 Bb2 Bl2 hO KW HWP hH1 hW1
        go_wp2_with fail
        refine (walk_any 25 _ (fun j => decide (j < (cutS s).size)) (DrI bc blc bb (cutS s) bl br cp (bxN (cutS s).size)) (InRows br (hei (bxN (cutS s).size))) _ run_dr hI (fun j wx hj _ hJ _ => dr_step bc blc bb (cutS s) bl br cp j hb (hn1 _ y0) (hn1 _ y3) (hn1 _ y1) wx hJ hj)).mono ?_
        rintro e w5 ⟨rfl, k5, m, hm', ⟨g0, g1, g2, hG⟩, hm1, hm2⟩
        have hmn : min m (cutS s).size = (cutS s).size := by
          rcases Nat.lt_or_ge m 4096 with h | h
          · obtain ⟨h3, h4⟩ := hm2 h
            have := of_decide_eq_false h4
            omega
          · omega
        rw [hmn] at hG
        have K5 : Keeps w w5 := Touch.trans K1 k5 (fun x h hx => by obtain ⟨r, h1, h2⟩ := h; have := hbr r h1; omega)
        clear hm1 hm2 hmn hm' hI K1 k5 g0 g2 hn1
        go_wp2_with fail
        go_loopw [6, 47] (fun v i wx => ∃ q : Nat, q ≤ hei (bxN (cutS s).size) ∧ i = .int .i64 q ∧ OwnStrs wx w5.heap.size v (lns (cutS s) q) ∧ Keeps w5 wx) (fun _ i _ => hei (bxN (cutS s).size) - (intOf i).toNat)
        case atStart => exact ⟨0, Nat.zero_le _, rfl, OwnStrs.nil_ _ _, Touch.refl _ _⟩
        case round =>
          obtain ⟨q, hq2, rfl, hown, kx⟩ := hrel
          have hlq : (lns (cutS s) q).length = q := by simp [lns]
          by_cases hlt2 : q < hei (bxN (cutS s).size)
          · have hG' := hG.touch kx (fun h => h) (fun _ _ h => h)
            have c0 : wr.cell? ⟨bl, q, none⟩ = some (.slice (some ⟨br q, 0, none⟩) (wid (bxN (cutS s).size)) (cp q)) := by
              have := hG'.head.cell hlt2
              rwa [if_pos hlt2] at this
            have hcv := run_convert_bytes_arg wr 49 5 und_bs und_u8 (br q) 0 (wid (bxN (cutS s).size)) (cp q) (row (byt (cutS s)) (cutS s).size (bxN (cutS s).size) q) (by simp [row]) (fun i hi => by
              rw [Nat.zero_add, (hG'.each q hlt2).cell hi]
              simp [row, hi]) 9 und_str
            have HL := Lib.hid (show lns (cutS s) (q + 1) = lns (cutS s) q ++ [strOfNums (row (byt (cutS s)) (cutS s).size (bxN (cutS s).size) q)] by simp [lns, List.range_succ, lnS])
            have hsx := kx.size
            have L6 := Lib.hid hown.lt
            have hl6 : (lns (cutS s) q).length ≤ 1000000 := by omega
            clear hG'
            generalize strOfNums (row (byt (cutS s)) (cutS s).size (bxN (cutS s).size) q) = line at *
            go_wp2_with (at_builtin; refine app_str rfl (.tmp 51) (.tmp 54) rfl w5.heap.size _ (lns (cutS s) q) (hown.alloc _) rfl wr.heap.size line rfl (cell_new _ _ _ _ rfl) hl6 (by simp; omega) ?_)
            intro v' w6 hown6 hg6 _
            have k6 : Keeps w5 w6 := (kx.alloc _).grown hg6 (fun k e hk => by have := (L6.out k e).1; omega)
            go_wp2_with fail
            go_roundw
            case rel => exact ⟨q + 1, by omega, by go_num, by rw [HL.out]; exact hown6, k6⟩
            case measure => simp [intOf]; omega
          · obtain rfl : q = hei (bxN (cutS s).size) := by omega
            obtain ⟨ad6, cp6, hf⟩ := hown.form
            have hrd : Rd wr ad6 (hei (bxN (cutS s).size)) (strF (lnS (cutS s))) := by
              rw [hf] at hown
              have := hown.rd
              rw [hlq] at this
              exact this.congr fun j hj => by simp [strF, lns, hj]
            rw [hlq] at hf
            clear hown
            go_wp2_with fail
            go_ret
            rw [HCT.out]
            exact ⟨ad6, cp6, congrArg Ending.returned hf, hrd, Keeps.trans K5 kx⟩

end Go.Proofs.Ytnpmadnihheahaa
