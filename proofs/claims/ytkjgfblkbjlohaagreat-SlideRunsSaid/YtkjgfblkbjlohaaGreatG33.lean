/- Layer 16's worlds: what a gap, and an object, come to. -/
import Derived.Test.YtkjgfblkbjlohaaGreatG29
import Derived.Test.YtkjgfblkbjlohaaGreatG32
set_option linter.all false

namespace Go.Proofs.YtkjgfblkbjlohaaGreat
open Go.RowKit

theorem St.touch {w w' : World} {ba bw n : Nat} {f : Nat → Int} {bt : Nat} {A : Option Addr} {m cap : Nat} {C : Nat → Cl} {S : Nat → Prop} (h : St w ba bw n f bt A m cap C) (ht : Touch S w w') (h1 : ¬ S ba) (h2 : ¬ S bw) (h3 : ¬ S bt) (h4 : ∀ b off, A = some ⟨b, off, none⟩ → ¬ S b) : St w' ba bw n f bt A m cap C :=
  ⟨h.ar.touch ht h1 h2, h.tb.touch ht h3 h4, h.ne, h.neA⟩
/-- What is new lies at a; all else is as it was. -/
structure NewAt (n m : Nat) (f g : Nat → Int) (C : Nat → Cl) (a z : Int) : Prop where
  ok : (atT n g m C a).2 = 0
  words : (atT n g m C a).1.words = z
  out : ∀ j : Nat, ¬ (a ≤ j ∧ (j : Int) < a + z) → g j = f j
theorem i64_small {x : Int} (h0 : -100000 ≤ x) (h1 : x ≤ 100000000) : I64 x := ⟨by omega, by omega⟩
theorem gap_at {n m : Nat} {f : Nat → Int} {C : Nat → Cl} {a z : Int} (hT : thB n a z = true) (hz : z = 1) : NewAt n m f (putF f a.toNat gap1W) C a z ∧ (atT n (putF f a.toNat gap1W) m C a).1.is = false := by
  obtain ⟨h1, h2, h3, h4⟩ := thB_true.1 hT
  have e : atT n (putF f a.toNat gap1W) m C a = (⟨⟨0, 0, 0, true, false, false⟩, 0, 0, 1⟩, 0) := by
    refine atT_one (thB_true.2 ⟨h1, by omega, h3, by omega⟩) ?_ ?_ rfl rfl
    · rw [putF_self, raw_gap1]; decide
    · rw [putF_self, raw_gap1]
  refine ⟨⟨by rw [e], by rw [e]; exact hz.symm, fun j hj => putF_ne (by omega)⟩, by rw [e]; rfl⟩
theorem gap_at2 {n m : Nat} {f : Nat → Int} {C : Nat → Cl} {a z : Int} (hT : thB n a z = true) (hz : 1 < z) : NewAt n m f (putF (putF f a.toNat gapW) (a + 1).toNat z) C a z ∧ (atT n (putF (putF f a.toNat gapW) (a + 1).toNat z) m C a).1.is = false := by
  obtain ⟨h1, h2, h3, h4⟩ := thB_true.1 hT
  have e1 : putF (putF f a.toNat gapW) (a + 1).toNat z a.toNat = gapW := by rw [putF_ne (by omega), putF_self]
  have e : atT n (putF (putF f a.toNat gapW) (a + 1).toNat z) m C a = (⟨⟨0, 0, 0, false, false, false⟩, 0, 0, z⟩, 0) := by
    refine atT_gap (thB_true.2 ⟨h1, by omega, h3, by omega⟩) ?_ ?_ rfl rfl (by omega) (putF_self _ _ _) (by omega) hT
    · rw [e1, raw_gap]; decide
    · rw [e1, raw_gap]
  refine ⟨⟨by rw [e], by rw [e], fun j hj => ?_⟩, by rw [e]; rfl⟩
  rw [putF_ne (by omega), putF_ne (by omega)]
def GapOut (ba bw n : Nat) (f : Nat → Int) (bt : Nat) (A : Option Addr) (m cap : Nat) (C : Nat → Cl) (a z : Int) (w : World) (e : Ending) (w' : World) : Prop :=
  ∃ g, e = .returned (.int .i64 0) ∧ St w' ba bw n g bt A m cap C ∧ NewAt n m f g C a z ∧ (atT n g m C a).1.is = false ∧ (∀ j, j < n → I64 (g j)) ∧ Only bw w w'
theorem gap_yes (ba bw n : Nat) (f : Nat → Int) (bt : Nat) (A : Option Addr) (m cap : Nat) (C : Nat → Cl) (w : World) (h : St w ba bw n f bt A m cap C) (a z : Int) (hT : thB n a z = true) (hf : ∀ j, j < n → I64 (f j)) :
    Calls Tryz.prog 55 #[stV ba bt, .int .i64 a, .int .i64 z] w (GapOut ba bw n f bt A m cap C a z w) := by
  obtain ⟨h1, h2, h3, h4⟩ := thB_true.1 hT
  have hle := h.ar.le
  by_cases hz : z = 1
  · refine (gap_one ba bw n f bt A m cap C w h a z hz hT).mono (fun e w' hh => ⟨_, hh.1, hh.2.1, (gap_at hT hz).1, (gap_at hT hz).2, fun j hj => ?_, hh.2.2⟩)
    unfold putF
    split
    · exact i64_small (by decide) (by decide)
    · exact hf j hj
  · refine (gap_more ba bw n f bt A m cap C w h a z (by omega) hT).mono (fun e w' hh => ⟨_, hh.1, hh.2.1, (gap_at2 hT (by omega)).1, (gap_at2 hT (by omega)).2, fun j hj => ?_, hh.2.2⟩)
    unfold putF
    split
    · exact i64_small (by omega) (by omega)
    · split
      · exact i64_small (by decide) (by decide)
      · exact hf j hj
theorem i64_putF {n : Nat} {f : Nat → Int} {k : Nat} {v : Int} (h : ∀ j, j < n → I64 (f j)) (hv : I64 v) : ∀ j, j < n → I64 (putF f k v j) := fun j hj => by
  unfold putF
  split
  · exact hv
  · exact h j hj
theorem i64_layF {n : Nat} {f : Nat → Int} {a k W len : Int} (h : ∀ j, j < n → I64 (f j)) (hW : I64 W) (hl : I64 len) : ∀ j, j < n → I64 (layF f a k W len j) := by
  unfold layF
  refine i64_putF (i64_putF (fun j hj => ?_) hW) hl
  unfold fillF
  split
  · exact i64_small (by decide) (by decide)
  · exact h j hj
theorem cell_t {w w' : World} {p : Addr} {v : Value} {S : Nat → Prop} (h : w.cell? p = some v) (k : Touch S w w') (hb : ¬ S p.block) : w'.cell? p = some v := by
  rw [← h]
  exact World.cell?_of_block (k.block _ (block_lt_of_cell h) hb)
theorem rd_one (w : World) (N : Nat) (x : Int) (hN : w.heap.size = N) : Rd (w.alloc (.cells #[.int .i64 x] 3)) (some ⟨N, 0, none⟩) 1 (intF .i64 fun _ => x) := fun _ =>
  ⟨N, 0, rfl, by simp [hN], fun j hj => by
    have : j = 0 := by omega
    subst this
    exact cell_new w (.int .i64 x) 3 N hN⟩
/-- The head of what is laid, behind SetHead. -/
def newH (c : Int) (fin st : Bool) (ag : Int) : Hd := ⟨c, ag, 0, st, fin, false⟩
theorem laid_at {n m : Nat} {f : Nat → Int} {C : Nat → Cl} {a c len : Int} (hC : ∀ j, j < m → (C j).ok) (hm : m < 64) (hE : shE C m c len = 0) (hT : thB n a (shW C m c len) = true) :
    atT n (layF f a (shW C m c len) (layW c (C (c - 1).toNat).fin) len) m C a = (⟨⟨c, 0, 0, false, (C (c - 1).toNat).fin, false⟩, shR C m c len, shD C m c len, shW C m c len⟩, 0) :=
  atT_laid hC hm hE hT (layF_at (by have := (thB_true.1 hT).1; omega)) layF_len
/-- What lies at a behind SetHead: the head is another one of the same class. -/
theorem atT_head {n m : Nat} {f g : Nat → Int} {C : Nat → Cl} {a : Int} {h h' : Hd} {r d k : Int} (hc : h.cls ≠ 0) (e : atT n f m C a = (⟨h, r, d, k⟩, 0)) (hk : h'.ok) (hcl : h'.cls = h.cls) (h1 : g a.toNat = hdW h') (h2 : g (a + 1).toNat = f (a + 1).toNat) : atT n g m C a = (⟨h', r, d, k⟩, 0) := by
  have h0 : (atT n f m C a).2 = 0 := by rw [e]
  obtain ⟨hT, _, hcs⟩ := at_cases h0
  rcases hcs with ⟨q1, _, q3⟩ | ⟨q1, _, _, _, _, q3⟩ | ⟨q1, q2, q3, q4, q5⟩
  · rw [e] at q3; injection q3 with q3; injection q3 with q3; rw [q3] at hc; exact absurd q1 hc
  · rw [e] at q3; injection q3 with q3; injection q3 with q3; rw [q3] at hc; exact absurd q1 hc
  · rw [e] at q5
    injection q5 with q5
    injection q5 with e1 e2 e3 e4
    have hraw : rawH (g a.toNat) = h' := by rw [h1]; exact raw_hdW hk
    have e0 : h'.cls = (rawH (f a.toNat)).cls := by rw [hcl, e1]
    rw [e2, e3, e4]
    refine atT_obj hT (by rw [hraw]; exact hk) hraw (by rw [hcl]; exact hc) q2 h2 (by rw [e0]; exact q3) (by rw [e0]) (by rw [e0]) q4

theorem NowR.at_touch {T : TypeId} {w w' : World} {gs n base top top' : Nat} {now : Nat → Sp} {S : Nat → Prop} (h : NowR T w (some ⟨gs, 0, none⟩) n base top now) (ht : Touch S w w') (hs : ¬ S gs) (hle : top ≤ top') : NowR T w' (some ⟨gs, 0, none⟩) n base top' now := by
  intro hn
  obtain ⟨g, cap, f, h0, h1, h2, h3, h4, h5⟩ := h hn
  simp only [Option.some.injEq, Addr.mk.injEq, and_true] at h0
  subst h0
  exact ⟨gs, cap, f, rfl, h1, by omega, h3, h4.touch ht hs, h5⟩
/-- How many words the objects of a space have. -/
def sumW (T : Int → Th × Int) (l : List Int) : Int := (l.map fun a => (T a).1.words).sum
def fullJ (T : Int → Th × Int) (L : Nat → Sp) (G : Nat → List Int) (j : Nat) : Prop := (L j).t = (L j).f + sumW T (G j)
theorem sumW_congr {T T' : Int → Th × Int} {l : List Int} (h : ∀ x, x ∈ l → (T' x).1.words = (T x).1.words) : sumW T' l = sumW T l := by
  unfold sumW
  rw [List.map_congr_left h]
theorem sumW_snoc (T : Int → Th × Int) (l : List Int) (a : Int) : sumW T (l ++ [a]) = sumW T l + (T a).1.words := by
  simp [sumW]
theorem LInv.gap {n m : Nat} {f g : Nat → Int} {C : Nat → Cl} {L : Nat → Sp} {G : Nat → List Int} {ats : List Int} (hC : ∀ j, j < m → (C j).ok) (h : LInv n m f C L G ats) {k : Nat} (hk : k < 3) {a z : Int} (ht : (L k).t = a)
    (hN : NewAt n m f g C a z) (hz : 1 ≤ z) (hfit : a + z ≤ (L k).e) (hi : ∀ j, j < n → I64 (g j)) (his : (atT n g m C a).1.is = false) : LInv n m g C (upT L k z) G ats := by
  have hN' := hN
  subst ht
  have hh := h.add hC hk hN.ok (by rw [hN.words]; exact hz) (by rw [hN.words]; exact hfit) (by rw [hN.words]; exact hN.out) hi (by rw [his]; intro h; cases h)
  rw [hN.words, his] at hh
  simp only [if_neg (show ¬ (false = true) by decide), List.append_nil] at hh
  have e : (fun j => if j = k then G k else G j) = G := by
    funext j
    by_cases e : j = k
    · rw [if_pos e, e]
    · rw [if_neg e]
  rw [e] at hh
  exact hh
def addG (G : Nat → List Int) (k : Nat) (a : Int) : Nat → List Int := fun j => if j = k then G k ++ [a] else G j
theorem LInv.objs {n m : Nat} {f g : Nat → Int} {C : Nat → Cl} {L : Nat → Sp} {G : Nat → List Int} {ats : List Int} (hC : ∀ j, j < m → (C j).ok) (h : LInv n m f C L G ats) {k : Nat} (hk : k < 3) {a z : Int} (ht : (L k).t = a)
    (hN : NewAt n m f g C a z) (hz : 1 ≤ z) (hfit : a + z ≤ (L k).e) (hi : ∀ j, j < n → I64 (g j)) (his : (atT n g m C a).1.is = true) (hr : ∀ x, x ∈ refsOf g a (objP (atT n g m C a)).1.refs.toNat → x = 0) :
    LInv n m g C (upT L k z) (addG G k a) (ats ++ [a]) ∧ ((∀ j, j < 3 → fullJ (atT n f m C) L G j) → ∀ j, j < 3 → fullJ (atT n g m C) (upT L k z) (addG G k a) j) := by
  subst ht
  have hh := h.add hC hk hN.ok (by rw [hN.words]; exact hz) (by rw [hN.words]; exact hfit) (by rw [hN.words]; exact hN.out) hi (fun _ => hr)
  rw [hN.words, his] at hh
  refine ⟨hh, fun hF j hj => ?_⟩
  have hRk := (rightB_iff _).1 (h.rise k hk).1
  have hs : ∀ j, j < 3 → ∀ x, x ∈ G j → (atT n g m C x).1.words = (atT n f m C x).1.words := fun j hj x hx => by
    obtain ⟨b1, b2, b3, b4, b5, b6⟩ := (h.tile j hj).bd hC hx
    rw [(obj_same hC b3 b4 (g := g) (fun i i1 i2 => hN.out i (by
      intro ⟨c1, c2⟩
      have hRj := (rightB_iff _).1 (h.rise j hj).1
      rcases Nat.lt_trichotomy j k with q | q | q
      · have := rise_sep h.rise q hk; omega
      · subst q; omega
      · have := rise_sep h.rise q hj; omega))).1]
  obtain ⟨u1, u2, u3⟩ := upT_f L k z j
  have hF := hF j hj
  unfold fullJ at hF ⊢
  rw [u1, u3]
  unfold addG
  by_cases e : j = k
  · subst e
    rw [if_pos rfl, if_pos rfl, sumW_snoc, sumW_congr (hs j hj), hN.words]
    omega
  · rw [if_neg e, if_neg e, sumW_congr (hs j hj)]
    exact hF

end Go.Proofs.YtkjgfblkbjlohaaGreat
