/- The law HandlePlaces: the walk. -/
import Derived.Test.YtnjjecojedlccaaHan4
import Derived.Test.YtnjjecojedlccaaOpen
import Derived.StillTailTactics
namespace Go.Proofs.Ytnjjecojedlccaa
open Go.RowKit

theorem OwnInts.rd {w : World} {base : Nat} {ad : Option Addr} {cap : Nat} {l : List Int} (h : OwnInts w base (.slice ad l.length cap) l) :
    Rd w ad l.length (intF .i64 fun j => l.getD j 0) ∧ ∀ b off, ad = some ⟨b, off, none⟩ → base ≤ b ∧ b < w.heap.size := by
  refine ⟨fun hn => ?_, fun b off e => ?_⟩
  · rcases h.2 with ⟨_, h0⟩ | ⟨g, cap', cur, hv, hb, hgg, _⟩
    · omega
    · simp only [Value.slice.injEq] at hv
      obtain ⟨rfl, _, _⟩ := hv
      refine ⟨g, 0, rfl, (Array.getElem?_eq_some_iff.1 hgg).1, fun j hj => ?_⟩
      have hc := h.cells (g := g) rfl j (.int .i64 (l.getD j 0)) (by simp [ints, hj])
      rw [add_plain] at hc
      exact hc
  · subst e
    exact World.ownsRow.lt h b rfl

/-- The places of some handles. -/
def usedB (l : List Int) (k : Nat) (j : Nat) : Bool := (l.take k).any fun h => (h - 1) % 64 == (j : Int)
def usedF (l : List Int) (k : Nat) : Nat → Value := fun j => .bool (usedB l k j)
theorem usedB_snoc (l : List Int) (k : Nat) (hk : k < l.length) (j : Nat) : usedB l (k + 1) j = (usedB l k j || ((l.getD k 0 - 1) % 64 == (j : Int))) := by
  unfold usedB
  rw [List.take_succ_eq_append_getElem hk, List.any_append, List.getD_eq_getElem?_getD, List.getElem?_eq_getElem hk]
  simp
theorem allT_mem {T : Nat → Pl} {h : Int} : h ∈ allT T ↔ ∃ i, i < 64 ∧ (T i).on = true ∧ h = hnd (T i) i := by
  unfold allT allK
  simp only [List.mem_filterMap, List.mem_range]
  constructor
  · rintro ⟨i, hi, e⟩
    by_cases ho : (T i).on = true
    · rw [if_pos ho] at e; exact ⟨i, hi, ho, by simpa using e.symm⟩
    · rw [if_neg ho] at e; cases e
  · rintro ⟨i, hi, ho, rfl⟩
    exact ⟨i, hi, by rw [if_pos ho]⟩
theorem used_all {T : Nat → Pl} {j : Nat} (hj : j < 64) : usedB (allT T) (allT T).length j = (T j).on := by
  unfold usedB
  rw [List.take_length, Bool.eq_iff_iff, List.any_eq_true]
  constructor
  · rintro ⟨h, hm, he⟩
    obtain ⟨i, hi, ho, rfl⟩ := allT_mem.1 hm
    have : i = j := by simp [hnd] at he; omega
    subst this; exact ho
  · intro ho
    exact ⟨hnd (T j) j, allT_mem.2 ⟨j, hj, ho, rfl⟩, by simp [hnd]; omega⟩
theorem allT_bd {T : Nat → Pl} {N : Int} (hw : WF T N) {k : Nat} (hk : k < (allT T).length) : 1 ≤ (allT T).getD k 0 ∧ (allT T).getD k 0 ≤ 6400000 := by
  rw [List.getD_eq_getElem?_getD, List.getElem?_eq_getElem hk]
  obtain ⟨i, hi, ho, e⟩ := allT_mem.1 (List.getElem_mem hk)
  obtain ⟨h0, h1, h2⟩ := hw.2 i hi
  have := h2 ho
  have := hw.1
  simp only [Option.getD_some]
  rw [e]
  unfold hnd
  exact ⟨by omega, by omega⟩

def falses : Array Value := Array.ofFn (n := 64) fun _ => .bool false
theorem zero_bools (w : World) : (zeroValue 32).run Try.prog w = .ok (.agg falses) w := by kernel_rfl
theorem falses_store (w : World) : Sem.run Try.prog (storeCells ⟨w.heap.size, 0, none⟩ falses.toList) (w.alloc (.cells falses 32)) = .ok () (w.alloc (.cells falses 32)) :=
  run_store_new _ w falses falses _ rfl (fun v hv => by
    simp [falses] at hv
    obtain ⟨_, rfl⟩ := hv
    rfl)
theorem usedF_zero (w : World) (l : List Int) (c : Array Value) (hc : ∀ j, j < 64 → c[j]? = some (.bool false)) (hs : c.size = 64) : Blk (w.alloc (.cells c 32)) w.heap.size 32 64 (usedF l 0) :=
  Blk.made w 64 _ _ c hs (fun j h => by simpa [usedF, usedB] using hc j h)

def PlacesRel (w : World) (bt : Nat) (n : Nat) (wr : World) : Prop := ∃ T, Tab wr bt T ∧ WF T n ∧ Keeps w wr

set_option maxRecDepth 100000 in
set_option maxHeartbeats 4000000 in
theorem places_walk (A : Option Addr) (len cap : Nat) (L : Nat → Int) (w : World) (hr : Rd w A len (intF .u8 L)) (hm : len ≤ 9223372036854775807) (hL : InKind .u8 L len) :
    Calls Try.prog 3 #[.slice A len cap] w fun e w' => e = .returned (.bool true) ∧ Keeps w w' := by
  have hz := zero_tab
  have hz2 := zero_bools
  have hst := falses_store
  by_cases hlen : len ≤ 300
  · have hgt : decide ((300 : Int) < (len : Int)) = false := by simp; omega
    go_enter Try.func3, Try.ntmps3
    go_wp2_with fail
    refine (awake_any _).mono ?_
    rintro e w1 ⟨rfl, k1⟩
    have hT0 := Lib.hid (tab_made w1 T0)
    go_wp2_with fail
    have K1 : Keeps w (w1.alloc (.cells (tabArr T0) 29)) := k1.alloc _
    have hT1 := hT0.out
    have hbt : w.heap.size ≤ w1.heap.size := k1.size
    generalize w1.heap.size = bt at *
    clear hT0 k1
    go_loopw [23] (fun i wr => ∃ k : Nat, k ≤ len ∧ i = .int .i64 k ∧ PlacesRel w bt k wr) (fun i _ => len - (intOf i).toNat)
    case atStart => exact ⟨0, Nat.zero_le _, rfl, _, hT1, wf_T0 _ (by omega) (by omega), K1⟩
    case round =>
      obtain ⟨k, hk, rfl, T, hT, hW, K⟩ := hrel
      clear hT1 K1
      by_cases hlt : k < len
      · obtain ⟨bl, off, rfl, c0⟩ := (hr.keep K).one hlt
        have hb := u8_bounds (hL k hlt)
        go_wp2_with fail
        refine (all_any _ T _ _ hT hW).mono ?_
        rintro e w2 ⟨ad, cp, rfl, hown, k2⟩
        go_wp2_with fail
        have hWr := wr.heap.size
        obtain ⟨hrd, hlo⟩ := hown.rd
        have hbl : bt < wr.heap.size := hT.lt
        have hT2 := Blk.touch hT k2 (fun k => k)
        have K2 := Keeps.trans K k2
        have hu := Lib.hid (usedF_zero w2 (allT T) falses (fun j hj => by simp [falses, hj]) rfl)
        have hrd2 := hrd.keepS ((Touch.refl (fun _ => False) w2).alloc (.cells falses 32)) (fun _ _ _ k => k)
        have hT3 := hT2.alloc (.cells falses 32)
        have K3 := K2.alloc (.cells falses 32)
        have hlo2 : ∀ b off, ad = some ⟨b, off, none⟩ → wr.heap.size ≤ b ∧ b < w2.heap.size := hlo
        have hbu : bt < w2.heap.size := hT2.lt
        have hbw : w.heap.size ≤ w2.heap.size := K2.size
        have hu' := hu.out
        clear hown hrd hlo hT2 K2 k2 hu hT K hWr
        generalize (w2.alloc (.cells falses 32)) = w3 at *
        generalize w2.heap.size = bu at *
        have hl64 := allT_len T
        have hbd := fun m (h : m < (allT T).length) => allT_bd hW h
        have hua := Lib.hid (fun j (h : j < 64) => used_all (T := T) h)
        have hrd3 : Rd w3 ad (allT T).length (intF .i64 fun j => (allT T).getD j 0) := hrd2
        clear hrd2
        have HBD := Lib.hid hbd
        clear hbd
        generalize hL : allT T = l at *
        have HLL := Lib.hid hL
        clear hL
        go_loopw [31] (fun i wx => ∃ m : Nat, m ≤ l.length ∧ i = .int .i64 m ∧ Blk wx bu 32 64 (usedF l m) ∧ Only bu w3 wx) (fun i _ => l.length - (intOf i).toNat)
        case atStart => exact ⟨0, Nat.zero_le _, rfl, hu', Touch.refl _ _⟩
        case round =>
          obtain ⟨m, hm', rfl, hB, hO⟩ := hrel
          by_cases hml : m < l.length
          · have hrd4 := hrd3.keepS hO (fun b off e k => by have := hlo2 b off e; omega)
            obtain ⟨bl2, off2, had, c1⟩ := hrd4.one hml
            subst had
            obtain ⟨y1, y2⟩ := HBD.out m hml
            have hsn := Lib.hid (usedB_snoc l m hml)
            have c2 : wr.cell? ⟨bl2, off2 + m, none⟩ = some (.int .i64 (l.getD m 0)) := c1
            clear c1
            generalize l.getD m 0 = y at *
            obtain ⟨j, hj, hj'⟩ : ∃ j : Nat, j < 64 ∧ (y - 1) % 64 = (j : Int) := ⟨((y - 1) % 64).toNat, by omega, by omega⟩
            have c3 := hB.cell hj
            have c4 := hB.frozen j
            go_wp2_with fail
            go_roundw
            case rel =>
              refine ⟨m + 1, by omega, by go_num, ?_, hO.set _ _⟩
              refine (hB.set j (.bool true)).congr fun i _ => ?_
              unfold upd usedF
              rw [hsn.out i, hj']
              by_cases e : i = j
              · subst e; simp
              · rw [if_neg e]
                have : ((j : Int) == (i : Int)) = false := by simp; omega
                rw [this, Bool.or_false]
            case measure => simp [intOf]; omega
          · obtain rfl : m = l.length := by omega
            have hT4 := hT3.touch hO (by omega)
            have hrd4 := hrd3.keepS hO (fun b off e k => by have := hlo2 b off e; omega)
            have K4 := K3.new hO hbw
            have hbu2 := hB.lt
            clear hT3 hrd3 K3 hO hu'
            go_wp2_with fail
            go_loop [8] (fun i => ∃ m : Nat, m ≤ 64 ∧ i = .int .i64 m ∧ ∀ j, j < m → usedB l l.length j = true) (fun i => 64 - (intOf i).toNat)
            case atStart => exact ⟨0, by omega, rfl, fun j h => by omega⟩
            case round =>
              obtain ⟨m, hm2, rfl, hall⟩ := hrel
              have HA := Lib.hid hall
              clear hall
              by_cases hm64 : m < 64
              · have c3 : wr.cell? ⟨bu, m, none⟩ = some (.bool (usedB l l.length m)) := hB.cell hm64
                cases huse : usedB l l.length m with
                | true =>
                  rw [huse] at c3
                  have HU := Lib.hid huse
                  clear huse
                  go_wp2_with fail
                  go_round
                  case rel => exact ⟨m + 1, by omega, by go_num, fun j h => by
                    rcases (by omega : j < m ∨ j = m) with h' | rfl
                    · exact HA.out j h'
                    · exact HU.out⟩
                  case measure => simp [intOf]; omega
                | false =>
                  rw [huse] at c3
                  have hfr : freeT T 64 0 = some m := freeT_some 64 0 m (by omega) (by omega) (fun j _ h => by rw [← hua.out j (by omega)]; exact HA.out j h) (by rw [← hua.out m hm64]; exact huse)
                  have g1 : newE T = 0 := by simp [newE, hfr]
                  obtain ⟨n0, n1, n2⟩ := hW.2 m hm64
                  obtain ⟨v, hv, v0, v1, v2⟩ : ∃ v : Int, newA T = v ∧ (v - 1) % 64 = (m : Int) ∧ 1 ≤ v ∧ v ≤ 100000000 := ⟨newA T, rfl, by simp [newA, hfr, hnd]; omega, by simp [newA, hfr, hnd]; omega, by simp [newA, hfr, hnd]; omega⟩
                  have HF := Lib.hid hfr
                  have h64 : ((m : Int) == 64) = false := by simp; omega
                  clear hfr huse n0 n1 n2
                  go_wp2_with fail
                  refine (new_any _ T _ _ _ hT4 hW (by omega)).mono ?_
                  rintro e w5 ⟨rfl, hT5, k5⟩
                  have W5 := hW.new k (by omega)
                  have hrd5 := hrd4.keepS k5 (fun b off e k => by have := hlo2 b off e; omega)
                  have K5 := K4.new k5 hbt
                  rw [hv]
                  clear hv
                  obtain ⟨_, _, ha5, c5⟩ := (hr.keep K5).one hlt
                  simp only [Option.some.injEq, Addr.mk.injEq] at ha5
                  obtain ⟨rfl, rfl, _⟩ := ha5
                  have c6 : w5.cell? ⟨bl, off + k, none⟩ = some (.int .u8 (L k)) := c5
                  clear c5 c0
                  obtain ⟨d1, d2⟩ := hb
                  generalize L k = d at *
                  by_cases q : d % 3 = 1 ∧ 0 < l.length
                  · obtain ⟨q1, q2⟩ := q
                    have q3 : (d % 3 == 1) = true := by simp [q1]
                    obtain ⟨jx, hjx, hjx'⟩ : ∃ jx : Nat, jx < l.length ∧ d % (l.length : Int) = (jx : Int) := ⟨(d % (l.length : Int)).toNat, by have := Int.emod_lt_of_pos d (b := (l.length : Int)) (by omega); omega, by have := Int.emod_nonneg d (b := (l.length : Int)) (by omega); omega⟩
                    obtain ⟨bl2, off2, rfl, c7⟩ := hrd5.one hjx
                    have c8 : w5.cell? ⟨bl2, off2 + jx, none⟩ = some (.int .i64 (l.getD jx 0)) := c7
                    obtain ⟨y1, y2⟩ := HBD.out jx hjx
                    clear c7 q1
                    generalize l.getD jx 0 = y at *
                    go_wp2_with fail
                    refine (drop_any _ _ _ _ _ hT5 W5 (by omega) (by omega)).mono ?_
                    rintro e w6 ⟨rfl, hT6, k6⟩
                    go_wp2_with fail
                    go_roundw
                    case rel => exact ⟨k + 1, by omega, by go_num, _, hT6, (W5.drop y).mono (by omega) (by omega), K5.new k6 hbt⟩
                    case measure => simp [intOf]; omega
                  · by_cases q1 : d % 3 = 1
                    · have q2 : l.length = 0 := by omega
                      have q3 : (d % 3 == 1) = true := by simp [q1]
                      have q4 : decide (0 < l.length) = false := by simp [q2]
                      clear q q1 q2
                      go_wp2_with fail
                      go_roundw
                      case rel => exact ⟨k + 1, by omega, by go_num, _, hT5, W5.mono (by omega) (by omega), K5⟩
                      case measure => simp [intOf]; omega
                    · have q3 : (d % 3 == 1) = false := by simp [q1]
                      clear q
                      go_wp2_with fail
                      go_roundw
                      case rel => exact ⟨k + 1, by omega, by go_num, _, hT5, W5.mono (by omega) (by omega), K5⟩
                      case measure => simp [intOf]; omega
              · obtain rfl : m = 64 := by omega
                have hfr : freeT T 64 0 = none := freeT_none 64 0 (fun j _ h => by rw [← hua.out j (by omega)]; exact HA.out j (by omega))
                have g1 : newE T = 3 := by simp [newE, hfr]
                have g2 : newA T = 0 := by simp [newA, hfr]
                clear hfr
                go_wp2_with fail
                refine (new_any _ T _ _ _ hT4 hW (by omega)).mono ?_
                rintro e w5 ⟨rfl, hT5, k5⟩
                have W5 := hW.new k (by omega)
                have hrd5 := hrd4.keepS k5 (fun b off e k => by have := hlo2 b off e; omega)
                have K5 := K4.new k5 hbt
                obtain ⟨_, _, ha5, c5⟩ := (hr.keep K5).one hlt
                simp only [Option.some.injEq, Addr.mk.injEq] at ha5
                obtain ⟨rfl, rfl, _⟩ := ha5
                have c6 : w5.cell? ⟨bl, off + k, none⟩ = some (.int .u8 (L k)) := c5
                clear c5 c0
                obtain ⟨d1, d2⟩ := hb
                generalize L k = d at *
                by_cases q : d % 3 = 1 ∧ 0 < l.length
                · obtain ⟨q1, q2⟩ := q
                  have q3 : (d % 3 == 1) = true := by simp [q1]
                  obtain ⟨jx, hjx, hjx'⟩ : ∃ jx : Nat, jx < l.length ∧ d % (l.length : Int) = (jx : Int) := ⟨(d % (l.length : Int)).toNat, by have := Int.emod_lt_of_pos d (b := (l.length : Int)) (by omega); omega, by have := Int.emod_nonneg d (b := (l.length : Int)) (by omega); omega⟩
                  obtain ⟨bl2, off2, rfl, c7⟩ := hrd5.one hjx
                  have c8 : w5.cell? ⟨bl2, off2 + jx, none⟩ = some (.int .i64 (l.getD jx 0)) := c7
                  obtain ⟨y1, y2⟩ := HBD.out jx hjx
                  clear c7 q1
                  generalize l.getD jx 0 = y at *
                  go_wp2_with fail
                  refine (drop_any _ _ _ _ _ hT5 W5 (by omega) (by omega)).mono ?_
                  rintro e w6 ⟨rfl, hT6, k6⟩
                  go_wp2_with fail
                  go_roundw
                  case rel => exact ⟨k + 1, by omega, by go_num, _, hT6, (W5.drop y).mono (by omega) (by omega), K5.new k6 hbt⟩
                  case measure => simp [intOf]; omega
                · by_cases q1 : d % 3 = 1
                  · have q2 : l.length = 0 := by omega
                    have q3 : (d % 3 == 1) = true := by simp [q1]
                    have q4 : decide (0 < l.length) = false := by simp [q2]
                    clear q q1 q2
                    go_wp2_with fail
                    go_roundw
                    case rel => exact ⟨k + 1, by omega, by go_num, _, hT5, W5.mono (by omega) (by omega), K5⟩
                    case measure => simp [intOf]; omega
                  · have q3 : (d % 3 == 1) = false := by simp [q1]
                    clear q
                    go_wp2_with fail
                    go_roundw
                    case rel => exact ⟨k + 1, by omega, by go_num, _, hT5, W5.mono (by omega) (by omega), K5⟩
                    case measure => simp [intOf]; omega
      · go_wp2_with fail
        refine (len_any _ T _ _ hT hW).mono ?_
        rintro e w3 ⟨rfl, k3⟩
        have hl64 := allT_len T
        have hd : decide ((allT T).length ≤ 64) = true := by simpa using hl64
        go_wp2_with fail
        go_ret
        exact ⟨by simp; omega, Keeps.trans K k3⟩
  · have hgt : decide ((300 : Int) < (len : Int)) = true := by simp; omega
    go_enter Try.func3, Try.ntmps3
    go_wp2_with fail
    refine (awake_any _).mono ?_
    rintro e w1 ⟨rfl, k1⟩
    go_wp2_with fail
    refine (awake_any _).mono ?_
    rintro e w2 ⟨rfl, k2⟩
    go_wp2_with fail
    go_ret
    exact ⟨rfl, Keeps.trans k1 k2⟩

end Go.Proofs.Ytnjjecojedlccaa
