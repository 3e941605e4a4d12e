/- A map from places to bytes that grid makes: its entries stand in the order of the cells. -/
import Derived.Test.YtnpmadnihheahaaPlotL
import Derived.Maps.RangeWalk
namespace Go.Proofs.Ytnpmadnihheahaa
open Go.RowKit Go.MapKept Go.ChangeMaps

theorem und_c : Try.prog.underlying 23 = some (.complex .f64) := by kernel_rfl
theorem und_grid : Try.prog.underlying 47 = some (.map 23 5) := by kernel_rfl

theorem equal_pos (k j : Nat) (hk : k ≤ 4096) (hj : j ≤ 4096) (w : World) : (Op.equal 23 (posV k) (posV j)).run Try.prog w = .ok (decide (k = j)) w := by
  have s := sp k hk
  have t := sp j hj
  have h1 := ord_eq (St k).x (St j).x (by have := s.x1; omega) (by have := s.x2; omega) (by have := t.x1; omega) (by have := t.x2; omega)
  have h2 := ord_eq (St k).y (St j).y (by have := s.y1; omega) (by have := s.y2; omega) (by have := t.y1; omega) (by have := t.y2; omega)
  have h3 : (decide ((St k).x = (St j).x) && decide ((St k).y = (St j).y)) = decide (k = j) := by
    by_cases e : k = j
    · subst e; simp
    · have : ¬ ((St k).x = (St j).x ∧ (St k).y = (St j).y) := fun h => e (sp_inj hk hj h.1 h.2)
      rw [decide_eq_false e]
      by_cases e1 : (St k).x = (St j).x
      · have e2 : ¬ (St k).y = (St j).y := fun h => this ⟨e1, h⟩
        simp [e2]
      · simp [e1]
  have key : ∀ d, (Op.equalIn (d + 1) 23 (posV k) (posV j)).run Try.prog w = .ok (decide (k = j)) w := fun d => by
    unfold posV Op.equalIn
    simp only [run_underlying und_c, Sem.run_bind, Result.andThen, Op.floatEq, h1, h2, h3, if_true]
    rfl
  exact key 9999

def ent (v : Nat → Int) (j : Nat) : MapEntry := { key := posV j, val := .int .u8 (v j), born := j }
def esN (n : Nat) (v : Nat → Int) : List MapEntry := (List.range n).map (ent v)
/-- Block b is the map of the first n cells. -/
def GMap (w : World) (b n : Nat) (v : Nat → Int) : Prop := w.heap[b]? = some (.map (esN n v).toArray n)

theorem find_seq (v : Nat → Int) (k : Nat) (hk : k ≤ 4096) (w : World) : ∀ (m i : Nat), i + m ≤ 4096 →
    (Instr.findAsking 23 (posV k) ((List.range' i m).map (ent v)) i).run Try.prog w = .ok (if i ≤ k ∧ k < i + m then some (k, .int .u8 (v k)) else none) w
  | 0, i, _ => by
    rw [if_neg (by omega)]
    rfl
  | m + 1, i, h => by
    rw [List.range'_succ, List.map_cons]
    unfold Instr.findAsking
    simp only [Sem.run_bind, ent, equal_pos k i hk (by omega), Result.andThen]
    by_cases e : k = i
    · subst e
      rw [if_pos (by simp), if_pos (by omega)]
      rfl
    · rw [if_neg (by simpa using e)]
      have := find_seq v k hk w m (i + 1) (by omega)
      rw [this]
      by_cases e2 : i ≤ k ∧ k < i + (m + 1)
      · rw [if_pos e2, if_pos (by omega)]
      · rw [if_neg e2, if_neg (by omega)]
theorem find_pos (v : Nat → Int) (n k : Nat) (hk : k ≤ 4096) (hn : n ≤ 4096) (w : World) :
    (Instr.findKey 23 (posV k) (esN n v)).run Try.prog w = .ok (if k < n then some (k, .int .u8 (v k)) else none) w := by
  unfold Instr.findKey
  simp only [Sem.run_bind, run_underlying und_c, Result.andThen]
  cases n with
  | zero =>
    rw [if_neg (Nat.not_lt_zero _)]
    rfl
  | succ n =>
    have h := find_seq v k hk w (n + 1) 0 (by omega)
    rw [← List.range_eq_range'] at h
    have e : Instr.findNow (.complex .f64) (posV k) (esN (n + 1) v) 0 = none := by
      unfold esN
      rw [List.range_succ_eq_map, List.map_cons]
      rfl
    rw [e]
    show (Instr.findAsking _ _ (esN (n + 1) v) 0).run _ _ = _
    unfold esN
    rw [h]
    by_cases e2 : k < n + 1
    · rw [if_pos e2, if_pos (by omega)]
    · rw [if_neg e2, if_neg (by omega)]

section
variable {w : World} {b n : Nat} {v : Nat → Int}
theorem GMap.lt (h : GMap w b n v) : b < w.heap.size := (Array.getElem?_eq_some_iff.1 h).1
theorem GMap.touch {S : Nat → Prop} {w' : World} (h : GMap w b n v) (ht : Touch S w w') (hs : ¬ S b) : GMap w' b n v := (ht.block b h.lt hs).trans h
theorem GMap.made (w : World) (v : Nat → Int) : GMap (w.alloc (.map #[] 0)) w.heap.size 0 v := heap_alloc_new w _
theorem check_pos (k : Nat) (em : Bool) (w : World) : (Instr.checkKey em 10000 23 (posV k)).run Try.prog w = .ok () w := by
  have key : ∀ d, (Instr.checkKey em (d + 1) 23 (posV k)).run Try.prog w = .ok () w := fun d => by
    unfold Instr.checkKey posV
    simp only [Sem.run_bind, run_underlying und_c, Result.andThen]
    rfl
  exact key 9999
theorem GMap.look (h : GMap w b n v) {k : Nat} (hk : k < n) (hn : n ≤ 4096) : (Instr.lookup 47 (.map (some b)) (posV k) false).run Try.prog w = .ok (.int .u8 (v k)) w := by
  have hf := find_pos v n k (by omega) hn w
  rw [if_pos hk] at hf
  unfold Instr.lookup
  simp [run_underlying und_grid, MapKept.run_getObj_map h, check_pos, hf, Result.andThen]
theorem GMap.len (h : GMap w b n v) (ty : TypeId) : (Builtin.len_ #[47] ty #[.map (some b)]).run Try.prog w = .ok (.int .i64 (n : Int)) w := by
  simp [Builtin.len_, run_underlying und_grid, MapKept.run_getObj_map h, goInt, Result.andThen, esN]
theorem GMap.put (h : GMap w b n v) (hn : n < 4096) : ∃ w', (Instr.mapUpdate 47 (.map (some b)) (posV n) (.int .u8 (v n))).run Try.prog w = .ok () w' ∧ GMap w' b (n + 1) v ∧ Only b w w' := by
  have hf := find_pos v n n (by omega) (by omega) w
  rw [if_neg (Nat.lt_irrefl _)] at hf
  have e : (esN n v).toArray.push { key := posV n, val := .int .u8 (v n), born := n } = (esN (n + 1) v).toArray := by
    simp [esN, List.range_succ, ent]
  refine ⟨setBlock w b (.map (esN (n + 1) v).toArray (n + 1)), ?_, heap_setBlock_same h _, ⟨rfl, rfl, rfl, by simp [setBlock], fun i _ hi => heap_setBlock_other h _ hi⟩⟩
  unfold Instr.mapUpdate
  simp [run_underlying und_grid, MapKept.run_getObj_map h, check_pos, hf, Result.andThen, e]
  exact MapKept.run_setObj_map _ h

/-- 'for z, c := range m' under way. -/
def GRange (w : World) (b r n : Nat) (v : Nat → Int) (seen : Array Nat) (c0 : Nat) : Prop :=
  GMap w b n v ∧ w.heap[r]? = some (.mapIter (some b) n seen c0) ∧ n ≤ c0
theorem GRange.left {r c0 : Nat} {seen : Array Nat} (h : GRange w b r n v seen c0) : w.rangeLeft b r = (leftOf (esN n v).toArray seen).size := by
  obtain ⟨h1, h2, _⟩ := h
  unfold GMap at h1
  simp only [World.rangeLeft, h1, h2]
theorem GMap.range (h : GMap w b n v) : ∃ w', (Instr.range 47 (.map (some b))).run Try.prog w = .ok (.pointer (some ⟨w.heap.size, 0, none⟩)) w' ∧ GRange w' b w.heap.size n v #[] n ∧ Keeps w w' :=
  ⟨_, run_range_map w _ _ _ b _ n und_grid h, ⟨h.touch ((Touch.refl (fun _ => False) w).alloc _) (fun h => h), heap_alloc_new w _, Nat.le_refl _⟩, (Touch.refl _ w).alloc _⟩
theorem GRange.touch {r c0 : Nat} {seen : Array Nat} {S : Nat → Prop} {w' : World} (h : GRange w b r n v seen c0) (ht : Touch S w w') (hs : ¬ S b) (hr : ¬ S r) : GRange w' b r n v seen c0 := by
  obtain ⟨h1, h2, h3⟩ := h
  exact ⟨h1.touch ht hs, (ht.block r (Array.getElem?_eq_some_iff.1 h2).1 hr).trans h2, h3⟩
theorem mem_es {x : MapEntry} (h : x ∈ (esN n v).toArray.toList) : ∃ j, j < n ∧ x = ent v j := by
  simp only [esN, List.mem_map, List.mem_range] at h
  obtain ⟨j, hj, rfl⟩ := h
  exact ⟨j, hj, rfl⟩
theorem GRange.next {r c0 : Nat} {seen : Array Nat} (h : GRange w b r n v seen c0) (ty : TypeId) :
    ((leftOf (esN n v).toArray seen).size = 0 ∧ (Instr.next (.pointer (some ⟨r, 0, none⟩)) false ty).run Try.prog w = .ok (.tuple #[.bool false]) w) ∨
    ∃ j w', j < n ∧ (Instr.next (.pointer (some ⟨r, 0, none⟩)) false ty).run Try.prog w = .ok (.tuple #[.bool true, posV j, .int .u8 (v j)]) w' ∧ GRange w' b r n v (seen.push j) n ∧
      (leftOf (esN n v).toArray (seen.push j)).size < (leftOf (esN n v).toArray seen).size ∧ Only r w w' ∧ (Instr.entry (.pointer (some ⟨r, 0, none⟩))).run Try.prog w' = .ok (.tuple #[posV j, .int .u8 (v j)]) w' := by
  obtain ⟨hb, hr, hc⟩ := h
  have hne : r ≠ b := by
    intro e
    rw [e] at hr
    unfold GMap at hb
    rw [hb] at hr
    cases hr
  rcases run_next_at (P := Try.prog) w ty r b n c0 seen _ n hr hb (fun x hx => by obtain ⟨j, hj, rfl⟩ := mem_es hx; exact hj) hc with ⟨h0, hrun⟩ | ⟨e, he, w1, hal, hrun⟩
  · exact .inl ⟨h0, hrun⟩
  · obtain ⟨hem, hes⟩ := mem_left he
    obtain ⟨j, hj, rfl⟩ := mem_es hem
    have hr1 : w1.heap[r]? = some (.mapIter (some b) n seen c0) := by rcases hal with rfl | rfl <;> exact hr
    have hb1 : GMap w1 b n v := by rcases hal with rfl | rfl <;> exact hb
    have k1 : Only r w1 (setBlock w1 r (.mapIter (some b) n (seen.push j) n)) := ⟨rfl, rfl, rfl, by simp [setBlock], fun i _ hi => (heap_set (o' := .mapIter (some b) n (seen.push j) n) hr1).2 i hi⟩
    have k0 : Only r w w1 := by rcases hal with rfl | rfl <;> exact ⟨rfl, rfl, rfl, Nat.le_refl _, fun _ _ _ => rfl⟩
    have hb2 := hb1.touch k1 (fun e => hne e.symm)
    have hr2 : (setBlock w1 r (.mapIter (some b) n (seen.push j) n)).heap[r]? = some (.mapIter (some b) n (seen.push j) n) := (heap_set (o' := .mapIter (some b) n (seen.push j) n) hr1).1
    refine .inr ⟨j, _, hj, hrun, ⟨hb2, hr2, Nat.le_refl _⟩, left_shrinks _ seen (ent v j) he, Only.trans_ k0 k1, run_entry_at _ r b n seen _ n (ent v j) hr2 hb2 hem ?_⟩
    simp only [esN, List.map_map]
    have e : (MapEntry.born ∘ ent v) = id := rfl
    rw [e, List.map_id]
    exact List.nodup_range
end

end Go.Proofs.Ytnpmadnihheahaa
