/- Layer 16, the document's run, where it goes well. -/
import Derived.Test.YtkjgfblkbjlohaaGreatDoc2
import Derived.BigQuiet
import Derived.Deep.OwnRows
set_option linter.all false

namespace Go.Proofs.YtkjgfblkbjlohaaGreat
open Go.RowKit

def allG (G : Nat → List Int) (j : Nat) : List Int := (List.range j).flatMap G
theorem allG_succ (G : Nat → List Int) (j : Nat) : allG G (j + 1) = allG G j ++ G j := by unfold allG; rw [List.range_succ, List.flatMap_append]; simp
theorem allG_mem {G : Nat → List Int} {j k : Nat} {x : Int} (h : x ∈ G j) (hj : j < k) : x ∈ allG G k := List.mem_flatMap.2 ⟨j, List.mem_range.2 hj, h⟩
def DocOut (wb wcp m : Nat) (f : Nat → Int) (C : Nat → Cl) (L : Nat → Sp) (stay roots : List Int) (w : World) (e : Ending) (w' : World) : Prop :=
  ∃ oa oc ad cp, e = .returned (.tuple #[.slice oa roots.length oc, .slice ad 3 cp, .int .i64 0]) ∧ Rd w' oa roots.length (intF .i64 fun i => (toM (atT 500 f m C) L 3 (gt0 stay) stay.length (gt0 roots i)).getD 0) ∧ Rd w' ad (3 * 3) (spF (slidNow 500 m f C L stay)) ∧ IB w' wb wcp 500 (docF 500 m f C L stay) ∧ Only wb w w'
theorem ints_len_le {m : Nat} {f : Nat → Int} {C : Nat → Cl} {L : Nat → Sp} {G : Nat → List Int} {ats : List Int} (hC : ∀ j, j < m → (C j).ok) (hI : LInv 500 m f C L G ats) {j : Nat} (hj : j < 3) : (G j).length ≤ 500 := by
  have hp := (hI.tile j hj).rise_ hC
  have hb : ∀ x, x ∈ G j → 1 ≤ x ∧ x < 451 := fun x hx => hI.len hC ((hI.mem x).2 ⟨j, hj, hx⟩)
  have key : ∀ (l : List Int) (a : Int), l.Pairwise (· < ·) → (∀ x, x ∈ l → a ≤ x ∧ x < 451) → (l.length : Int) ≤ max 0 (451 - a) := by
    intro l
    induction l with
    | nil => intro a _ _; simp; omega
    | cons y l ih =>
      intro a hp hb
      obtain ⟨h1, h2⟩ := List.pairwise_cons.1 hp
      have := ih (y + 1) h2 (fun x hx => by have := h1 x hx; have := hb x (List.mem_cons_of_mem _ hx); omega)
      have h3 := hb y (List.mem_cons_self ..)
      rw [List.length_cons]
      omega
  have := key (G j) 1 hp hb
  omega
theorem info_int_ : (Tryz.prog.info? 3).map (fun i => (i.zero, i.size, i.bytes)) = some (some (.int .i64 0), 1, 8) := by kernel_rfl
set_option maxRecDepth 100000 in
set_option maxHeartbeats 8000000 in
theorem docrun_any (w : World) (pa wb wcp : Nat) (f : Nat → Int) (Ac : Option Addr) (m cc : Nat) (C : Nat → Cl) (hR : RSt w pa 500 f (some ⟨wb, 0, none⟩) wcp Ac m C) (hB : IB w wb wcp 500 f) (hpw : pa ≠ wb) (hpl : pa < w.heap.size)
    (L : Nat → Sp) (G : Nat → List Int) (ats stay roots : List Int) (hI : LInv 500 m f C L G ats) (hS : Stays 500 m f C ats stay) (hRo : ∀ x, x ∈ roots → x = 0 ∨ x ∈ stay)
    (D : Option Addr) (qc : Nat) (hD : Rd w D (3 * 3) (spF L)) (sa : Option Addr) (sc : Nat) (hs : Rd w sa stay.length (intF .i64 (gt0 stay))) (hsb : ∀ b off, sa = some ⟨b, off, none⟩ → b ≠ wb ∧ b < w.heap.size) (hsl : stay.length ≤ 60)
    (ra : Option Addr) (rc : Nat) (hr : Rd w ra roots.length (intF .i64 (gt0 roots))) (hrb : ∀ b off, ra = some ⟨b, off, none⟩ → b < w.heap.size) (hrl : roots.length ≤ 20) :
    Calls Tryz.prog 8 #[.agg #[.pointer (some ⟨pa, 0, none⟩), .slice Ac m cc], .slice D 3 qc, .slice sa stay.length sc, .slice ra roots.length rc] w (DocOut wb wcp m f C L stay roots w) := by
  have hC := hR.ok
  have hbl := hB.lt
  have HRi := Lib.hid (show ∀ w', Keeps w w' → Calls Tryz.prog 38 #[.slice D 3 qc] w' fun e w2 => e = .returned (.bool true) ∧ Keeps w' w2 from fun w' k => by
    refine Calls.mono (rrise_any D 3 qc L w' (hD.keep k) (by omega)) ?_
    rintro e w2 ⟨b, rfl, hb, k2⟩
    rw [hb.2 hI.rise]
    exact ⟨rfl, k2⟩)
  have HWk := Lib.hid (show ∀ w', Keeps w w' → ∀ j, j < 3 → Calls Tryz.prog 39 #[.agg #[.pointer (some ⟨pa, 0, none⟩), .slice Ac m cc], .int .i64 (L j).f, .int .i64 (L j).t] w' fun e w2 => ∃ v, e = .returned (.tuple #[v, .int .i64 0]) ∧ OwnInts w2 w'.heap.size v (G j) ∧ Keeps w' w2 from fun w' k j hj => by
    have h1 := (rightB_iff _).1 (hI.rise j hj).1
    exact rwalk16 pa 500 f _ wcp Ac m cc C w' (hR.keep k) (L j).f (L j).t (G j) (hI.tile j hj) (by omega) (by omega) (by have := ints_len_le hC hI hj; omega))
  have HOb := Lib.hid (show ∀ k, k < stay.length → ∃ h r d z, atT 500 f m C (gt0 stay k) = (⟨h, r, d, z⟩, 0) ∧ objP (atT 500 f m C (gt0 stay k)) = (⟨h, r, d, z⟩, 0) ∧ h.cls ≠ 0 ∧ h.ok ∧ 0 ≤ r ∧ 0 ≤ d ∧ z = 2 + r + d ∧ 1 ≤ gt0 stay k ∧ gt0 stay k + z ≤ 500 from fun k hk => by
    obtain ⟨h, r, d, z, e, a1, a2, a3, a4, a5, a6, a7⟩ := hS.obj hC hI (by omega) hk
    exact ⟨h, r, d, z, e, by rw [e]; exact objP_same (fun q => a1 q.2), a1, a2, a3, a4, a5, a6, a7⟩)
  obtain ⟨Z, hZ⟩ : ∃ Z, slidZ 500 m f C stay = Z := ⟨_, rfl⟩
  have HZk := Lib.hid (show ∀ k, k < stay.length → 2 ≤ Z k ∧ gt0 stay k + Z k ≤ 500 ∧ 1 ≤ gt0 stay k from fun k hk => by
    obtain ⟨h, r, d, z, e, _, _, _, a3, a4, a5, a6, a7⟩ := HOb.out k hk
    have : Z k = z := by rw [← hZ]; show (atT 500 f m C (gt0 stay k)).1.words = z; rw [e]
    omega)
  have HSz := Lib.hid (show ∀ w', Keeps w w' → ∀ k, k < stay.length → Calls Tryz.prog 41 #[.agg #[.pointer (some ⟨pa, 0, none⟩), .slice Ac m cc], .int .i64 (gt0 stay k)] w' fun e w2 => e = .returned (.tuple #[.int .i64 (Z k), .bool true, .int .i64 0]) ∧ Keeps w' w2 from fun w' kk k hk => by
    obtain ⟨h, r, d, z, e, _, hcz, _⟩ := HOb.out k hk
    have hh := rsize_ok pa 500 f _ wcp Ac m cc C w' (hR.keep kk) (gt0 stay k) (by rw [e])
    rw [e] at hh
    have hz : Z k = z := by rw [← hZ]; show (atT 500 f m C (gt0 stay k)).1.words = z; rw [e]
    have hi : (⟨h, r, d, z⟩ : Go.Proofs.YtkjgfblkbjlohaaGreat.Th).is = true := by unfold Go.Proofs.YtkjgfblkbjlohaaGreat.Th.is; simpa using hcz
    rw [hi] at hh
    rw [hz]
    exact hh)
  obtain ⟨Rf, hRf⟩ : ∃ Rf : Nat → Int, (fun k => (objP (atT 500 f m C (gt0 stay k))).1.refs) = Rf := ⟨_, rfl⟩
  obtain ⟨Df, hDf⟩ : ∃ Df : Nat → Int, (fun k => (objP (atT 500 f m C (gt0 stay k))).1.data) = Df := ⟨_, rfl⟩
  obtain ⟨Hf, hHf⟩ : ∃ Hf : Nat → Hd, (fun k => (objP (atT 500 f m C (gt0 stay k))).1.hd) = Hf := ⟨_, rfl⟩
  have HRb := Lib.hid (show ∀ k, k < stay.length → 0 ≤ Rf k ∧ gt0 stay k + 2 + Rf k ≤ 500 ∧ 2 + Rf k ≤ Z k from fun k hk => by
    obtain ⟨h, r, d, z, e0, e, _, _, a3, a4, a5, a6, a7⟩ := HOb.out k hk
    have : Rf k = r := by rw [← hRf]; show (objP (atT 500 f m C (gt0 stay k))).1.refs = r; rw [e]
    have h2 : Z k = z := by rw [← hZ]; show (atT 500 f m C (gt0 stay k)).1.words = z; rw [e0]
    omega)
  have HSh := Lib.hid (show ∀ w', Keeps w w' → ∀ k, k < stay.length → Calls Tryz.prog 44 #[.agg #[.pointer (some ⟨pa, 0, none⟩), .slice Ac m cc], .int .i64 (gt0 stay k)] w' fun e w2 => e = .returned (.tuple #[.int .i64 (Rf k), .int .i64 (Df k), .int .i64 0]) ∧ Keeps w' w2 from fun w' kk k hk => by
    obtain ⟨h, r, d, z, _, e, _⟩ := HOb.out k hk
    have hh := rshape_ok pa 500 f _ wcp Ac m cc C w' (hR.keep kk) (gt0 stay k) (by rw [e])
    rw [← hRf, ← hDf]
    exact hh)
  have HHd := Lib.hid (show ∀ w', Keeps w w' → ∀ k, k < stay.length → Calls Tryz.prog 45 #[.agg #[.pointer (some ⟨pa, 0, none⟩), .slice Ac m cc], .int .i64 (gt0 stay k)] w' fun e w2 => e = .returned (.tuple #[hdV (Hf k), .int .i64 0]) ∧ Keeps w' w2 from fun w' kk k hk => by
    obtain ⟨h, r, d, z, _, e, _⟩ := HOb.out k hk
    have hh := rhead_ok pa 500 f _ wcp Ac m cc C w' (hR.keep kk) (gt0 stay k) (by rw [e])
    rw [← hHf]
    exact hh)
  have HHk := Lib.hid (show ∀ k, k < stay.length → (Hf k).ok from fun k hk => by
    obtain ⟨h, r, d, z, _, e, _, a2, _⟩ := HOb.out k hk
    rw [← hHf]
    show ((objP (atT 500 f m C (gt0 stay k))).1.hd).ok
    rw [e]; exact a2)
  have HPl := Lib.hid (show ∀ k, k < stay.length → gt0 stay k ∈ allG G 3 from fun k hk => by
    obtain ⟨j, hj, hm⟩ := (hI.mem _).1 (hS.inn _ (gt0_mem hk))
    exact allG_mem hm hj)
  have HGl := Lib.hid (show ∀ j, j < 3 → (G j).length ≤ 500 from fun j hj => ints_len_le hC hI hj)
  have hW := hS.well hC hI (by omega)
  have HPlan := Lib.hid (show ∀ w' B cz, Keeps w w' → Rd w' B stay.length (intF .i64 Z) → Calls Tryz.prog 42 #[.slice D 3 qc, .slice B stay.length cz] w' fun e w2 => ∃ v1 ad cp, e = .returned (.tuple #[v1, .slice ad 3 cp, .int .i64 0]) ∧ OwnInts w2 w'.heap.size v1 (sts L 3 Z stay.length).out ∧ NowR 91 w2 ad 3 w'.heap.size w2.heap.size (slidNow 500 m f C L stay) ∧ Keeps w' w2 from fun w' B cz k hz => by
    refine Calls.mono (rplan16_any D 3 qc L B stay.length cz Z w' (hD.keep k) (by omega) hz (by omega)) ?_
    rintro e w2 ⟨v1, ad, cp, out, k', now, err, rfl, hp, ho, hn, k2⟩
    have hZ2 : zOf (atT 500 f m C) (gt0 stay) = Z := hZ
    rw [hZ2] at hW
    rcases hp with ⟨_, _, _, hh⟩ | ⟨_, _, _, _, i, hi, hh⟩ | ⟨rfl, rfl, rfl, rfl, _, _⟩
    · exact absurd ⟨hW.rise, hW.big⟩ hh
    · exact absurd hh (hW.free i hi)
    · refine ⟨v1, ad, cp, rfl, ho, ?_, k2⟩
      show NowR _ _ _ _ _ _ (sts L 3 (zOf (atT 500 f m C) (gt0 stay)) stay.length).now
      rw [hZ2]
      exact hn)
  obtain ⟨P, hP⟩ : ∃ P, slidAt 500 m f C L stay = P := ⟨_, rfl⟩
  have HPe := Lib.hid (show ∀ j, (sts L 3 Z stay.length).out.getD j 0 = P j from fun j => by rw [← hP, ← hZ]; rfl)
  have HPo := Lib.hid (show (sts L 3 Z stay.length).out.length = stay.length from sts_out stay.length)
  have HPb := Lib.hid (show ∀ k, k < stay.length → 0 ≤ P k ∧ P k + Z k ≤ 500 from fun k hk => by
    have h1 := hS.go1 hC hI (by omega) hk
    have h2 := HZk.out k hk
    have : P k = dP (atT 500 f m C) L 3 (gt0 stay) stay.length k := by rw [← hP]; rfl
    omega)
  obtain ⟨Mv, hMv⟩ : ∃ Mv : Int → Int, (fun x => (toM (atT 500 f m C) L 3 (gt0 stay) stay.length x).getD 0) = Mv := ⟨_, rfl⟩
  have hMv2 : ∀ x, (toM (atT 500 f m C) L 3 (gt0 stay) stay.length x).getD 0 = Mv x := fun x => by rw [← hMv]
  have HGo := Lib.hid (show ∀ w' ta tn tc x, Rd w' sa stay.length (intF .i64 (gt0 stay)) → Rd w' ta stay.length (intF .i64 P) → tn = stay.length → (x = 0 ∨ x ∈ stay) → Calls Tryz.prog 43 #[.slice sa stay.length sc, .slice ta tn tc, .int .i64 x] w' fun e w2 => e = .returned (.tuple #[.int .i64 (Mv x), .bool true]) ∧ Keeps w' w2 from fun w' ta tn tc x h1 h2 h3 hx => by
    have h4 : Rd w' ta stay.length (intF .i64 fun j => (sts L 3 Z stay.length).out.getD j 0) := h2.congr (fun j _ => by show Value.int _ (P j) = Value.int _ ((sts L 3 Z stay.length).out.getD j 0); rw [HPe.out j])
    have hh := goes16 sa ta (gt0 stay) (sts L 3 Z stay.length).out stay.length sc tn tc x w' h1 h4 (by omega) h3 (fun i hi => by have := HZk.out i hi; omega) (fun i j hi hj e => stay_inj hS.rise hi hj e) (hx.imp_right (fun h => mem_gt0 h))
    rw [← hMv2 x, show toM (atT 500 f m C) L 3 (gt0 stay) stay.length x = planM (gt0 stay) (sts L 3 Z stay.length).out stay.length x by rw [← hZ]; rfl]
    exact hh)
  have HRf := Lib.hid (show ∀ k, k < stay.length → ∀ r : Nat, (r : Int) < Rf k → f (gt0 stay k + 2 + r).toNat = 0 ∨ f (gt0 stay k + 2 + r).toNat ∈ stay from fun k hk r hr => by
    refine hS.ref _ (gt0_mem hk) _ (mem_refsOf.2 ⟨r, ?_, rfl⟩)
    have h1 := HRb.out k hk
    have : Rf k = (objP (atT 500 f m C (gt0 stay k))).1.refs := by rw [← hRf]
    omega)
  have hDn := hS.down hC hI (by omega)
  obtain ⟨adj, hadj⟩ : ∃ adj, adjOf (atT 500 f m C) (toM (atT 500 f m C) L 3 (gt0 stay) stay.length) (gt0 stay) = adj := ⟨_, rfl⟩
  have HW0 := Lib.hid (show ∀ k, k < stay.length → ∀ j : Nat, gt0 stay k ≤ j → (j : Int) < gt0 stay k + Z k → wasG f adj k j = f j from fun k hk j j0 j1 => by
    rw [← hadj]
    exact hDn.was0 k (by omega) k (Nat.le_refl _) hk j j0 (by rw [← hZ] at j1; exact j1))
  obtain ⟨Ad, hAd⟩ : ∃ Ad : (Nat → Int) → Int → Nat → (Nat → Int), (fun g a r => adjR (toM (atT 500 f m C) L 3 (gt0 stay) stay.length) g a r) = Ad := ⟨_, rfl⟩
  have HAd := Lib.hid (show (∀ g a, Ad g a 0 = g) ∧ (∀ g a r, 1 ≤ a → Ad g a r (refAt a r).toNat = g (refAt a r).toNat) ∧ (∀ g a r, 1 ≤ a → putF (Ad g a r) (refAt a r).toNat (Mv (g (refAt a r).toNat)) = Ad g a (r + 1)) from by
    rw [← hAd]
    refine ⟨fun g a => adjR_zero _ _ _, fun g a r h => adjR_at h r, fun g a r h => ?_⟩
    rw [← hMv2]
    exact adjR_succ h r)
  have HAk := Lib.hid (show ∀ k, k < stay.length → ∀ g, putF (Ad g (gt0 stay k) (Rf k).toNat) (gt0 stay k).toNat (hdW (Hf k).clean) = adj k g from fun k hk g => by
    rw [← hAd, ← hadj, ← hRf, ← hHf]
    rfl)
  have HFin := Lib.hid (show finF f (wasG f adj stay.length) P (gt0 stay) Z stay.length = docF 500 m f C L stay from by rw [← hadj, ← hP, ← hZ]; rfl)
  have HMr := Lib.hid (show ∀ i, (toM (atT 500 f m C) L 3 (gt0 stay) stay.length (gt0 roots i)).getD 0 = Mv (gt0 roots i) from fun i => hMv2 _)
  have HRo := Lib.hid (show ∀ i, i < roots.length → gt0 roots i = 0 ∨ gt0 roots i ∈ stay from fun i hi => hRo _ (gt0_mem hi))
  have hE2 := hI.ends 2 (by omega)
  have HRise := Lib.hid (show ∀ k, k + 1 < stay.length → gt0 stay k < gt0 stay (k + 1) from hS.rise)
  have HSr := Lib.hid hs
  have HDr := Lib.hid hD
  have HRr := Lib.hid hr
  have HR := Lib.hid hR
  have HB := Lib.hid hB
  have HSb := Lib.hid hsb
  have HRrb := Lib.hid hrb
  have HDo := Lib.hid (show ∀ e w', (∃ oa oc ad cp, e = .returned (.tuple #[.slice oa roots.length oc, .slice ad 3 cp, .int .i64 0]) ∧ Rd w' oa roots.length (intF .i64 fun i => Mv (gt0 roots i)) ∧ Rd w' ad (3 * 3) (spF (slidNow 500 m f C L stay)) ∧ IB w' wb wcp 500 (finF f (wasG f adj stay.length) P (gt0 stay) Z stay.length) ∧ Only wb w w') → DocOut wb wcp m f C L stay roots w e w' from fun e w' ⟨oa, oc, ad, cp, h1, h2, h3, h4, h5⟩ => ⟨oa, oc, ad, cp, h1, h2.congr (fun i _ => by show Value.int _ (Mv (gt0 roots i)) = Value.int _ ((toM (atT 500 f m C) L 3 (gt0 stay) stay.length (gt0 roots i)).getD 0); rw [HMr.out i]), h3, by rw [← HFin.out]; exact h4, h5⟩)
  obtain ⟨NW, hNW⟩ : ∃ NW, slidNow 500 m f C L stay = NW := ⟨_, rfl⟩
  rw [hNW] at HPlan HDo
  obtain ⟨OUT, hOUT⟩ : ∃ OUT, (sts L 3 Z stay.length).out = OUT := ⟨_, rfl⟩
  rw [hOUT] at HPlan HPe HPo
  obtain ⟨S, hS0⟩ : ∃ S, gt0 stay = S := ⟨_, rfl⟩
  obtain ⟨Rt, hRt0⟩ : ∃ Rt, gt0 roots = Rt := ⟨_, rfl⟩
  clear hR hB hI hS hRo hD hs hsb hr hrb hC hZ hRf hDf hHf hW hP hMv hMv2 hDn hadj hAd HOb HFin HMr hNW hOUT
  rw [hS0] at HZk HSz HRb HSh HHd HPl HGo HRf HW0 HAk HSr HRise HDo
  rw [hRt0] at HRo HRr HDo
  clear hS0 hRt0
  obtain ⟨nm, hnm⟩ : ∃ nm, stay.length = nm := ⟨_, rfl⟩
  obtain ⟨rr, hrr⟩ : ∃ rr, roots.length = rr := ⟨_, rfl⟩
  rw [hnm] at HPb HZk HSz HRb HSh HHd HHk HPl HGo HRf HW0 HAk HSr HRise HPlan HPo HDo hsl ⊢
  rw [hrr] at HRo HRr HDo hrl ⊢
  clear hnm hrr
  have hmk := Go.run_make_row' (P := Tryz.prog) 34 3 (.int .i64 0) 8 Tryz.underlying34 info_int_ rfl .i64 .i64 rr (by omega) (by omega)
  have hzr := zero_rhd
  generalize DocOut wb wcp m f C L stay roots w = OUTP at *
  unfold rstV at *
  go_enter Tryz.func8, Tryz.ntmps8
  go_upto_region 1 with fail
  refine named_code (fun w1 hW1 => ?_)
  have K1 : Keeps w w1 := by rw [hW1]; exact (Touch.refl _ w).alloc _
  have B1 : BL w1 w.heap.size 42 [.pointer (some ⟨pa, 0, none⟩), .slice Ac m cc] := by rw [hW1]; exact BL.new1 _ _ _ [.pointer (some ⟨pa, 0, none⟩), .slice Ac m cc] _ rfl rfl
  have z1 : w1.heap.size = w.heap.size + 1 := by rw [hW1]; simp
  clear hW1
  have p0 := B1.c 0 _ rfl
  have p1 := B1.c 1 _ rfl
  obtain ⟨db, do_, rfl, x0, x1, x2⟩ := (HDr.out.keep K1).sp (show 2 < 3 by omega)
  have pt := (HR.out.keep K1).ptr
  have hEd : decide ((500 : Int) < (L 2).e) = false := decide_eq_false (by omega)
  have g32 : IntKind.i64.wrap 2 = 2 := by decide
  have x2 : w1.cell? ⟨db, do_ + 6 + 2, none⟩ = some (.int .i64 (L 2).e) := x2
  clear x0 x1
  refine wp_region_noPanic ?_
  refine wp_region_held_drew (S := (fun w' => Keeps w1 w')) (by kernel_rfl) (Touch.refl _ w1).drew (fun hHeld => ?_)
  refine' wpAnyH_take (i := 0) ?hi0_11 ?hs0_11 ?hf0_11 ?hr0_11 ?hQ0_11 ?hy0_11 (by assumption) ?rest0_11
  case hi0_11 => simp only [List.getElem?_toArray, List.getElem?_cons_zero] <;> rfl
  case hs0_11 => kernel_rfl
  case hf0_11 => kernel_rfl
  case hr0_11 => kernel_rfl
  case hQ0_11 => exact fun _ _ _ h => h
  case hy0_11 => exact Or.inl ⟨by rfl, fun w hSw => by go_simp <;> (try with_reducible rfl)⟩
  simp only [Act.put, List.setIfInBounds_toArray, List.set_cons_zero, List.set_cons_succ]
  refine wpAnyH_ready (rs := [1]) (by kernel_rfl) (by simp) ?_
  refine AllReadyH.cons rfl (fun K hK => ?_) AllReadyH.nil
  go_simp
  with_reducible refine Calls.mono (HRi.out _ (Keeps.trans K1 hHeld)) ?_
  rintro e w2 ⟨rfl, k2⟩
  go_wp2_with fail
  have h2 := Keeps.trans hHeld k2
  refine hK.out _ _ h2 (fun hHeld => ?_)
  clear hK K
  refine' wpAnyH_take (i := 2) ?hi2_11 ?hs2_11 ?hf2_11 ?hr2_11 ?hQ2_11 ?hy2_11 (by assumption) ?rest2_11
  case hi2_11 => simp only [List.getElem?_toArray, List.getElem?_cons_succ, List.getElem?_cons_zero] <;> rfl
  case hs2_11 => kernel_rfl
  case hf2_11 => kernel_rfl
  case hr2_11 => kernel_rfl
  case hQ2_11 => exact fun _ _ _ h => h
  case hy2_11 => exact Or.inl ⟨by rfl, fun w hSw => by go_simp <;> (try with_reducible rfl)⟩
  simp only [Act.put, List.setIfInBounds_toArray, List.set_cons_zero, List.set_cons_succ]
  refine' wpAnyH_take (i := 3) ?hi3_11 ?hs3_11 ?hf3_11 ?hr3_11 ?hQ3_11 ?hy3_11 (by assumption) ?rest3_11
  case hi3_11 => simp only [List.getElem?_toArray, List.getElem?_cons_succ, List.getElem?_cons_zero] <;> rfl
  case hs3_11 => kernel_rfl
  case hf3_11 => kernel_rfl
  case hr3_11 => kernel_rfl
  case hQ3_11 => exact fun _ _ _ h => h
  case hy3_11 => exact Or.inl ⟨by rfl, fun w hSw => by go_simp <;> (try with_reducible rfl)⟩
  simp only [Act.put, List.setIfInBounds_toArray, List.set_cons_zero, List.set_cons_succ]
  refine' wpAnyH_take (i := 4) ?hi4_11 ?hs4_11 ?hf4_11 ?hr4_11 ?hQ4_11 ?hy4_11 (by assumption) ?rest4_11
  case hi4_11 => simp only [List.getElem?_toArray, List.getElem?_cons_succ, List.getElem?_cons_zero] <;> rfl
  case hs4_11 => kernel_rfl
  case hf4_11 => kernel_rfl
  case hr4_11 => kernel_rfl
  case hQ4_11 => exact fun _ _ _ h => h
  case hy4_11 => exact Or.inl ⟨by rfl, fun w hSw => by go_simp <;> (try with_reducible rfl)⟩
  simp only [Act.put, List.setIfInBounds_toArray, List.set_cons_zero, List.set_cons_succ]
  refine' wpAnyH_take (i := 5) ?hi5_11 ?hs5_11 ?hf5_11 ?hr5_11 ?hQ5_11 ?hy5_11 (by assumption) ?rest5_11
  case hi5_11 => simp only [List.getElem?_toArray, List.getElem?_cons_succ, List.getElem?_cons_zero] <;> rfl
  case hs5_11 => kernel_rfl
  case hf5_11 => kernel_rfl
  case hr5_11 => kernel_rfl
  case hQ5_11 => exact fun _ _ _ h => h
  case hy5_11 => exact Or.inl ⟨by rfl, fun w hSw => by go_simp <;> (try with_reducible rfl)⟩
  simp only [Act.put, List.setIfInBounds_toArray, List.set_cons_zero, List.set_cons_succ]
  refine' wpAnyH_take (i := 6) ?hi6_11 ?hs6_11 ?hf6_11 ?hr6_11 ?hQ6_11 ?hy6_11 (by assumption) ?rest6_11
  case hi6_11 => simp only [List.getElem?_toArray, List.getElem?_cons_succ, List.getElem?_cons_zero] <;> rfl
  case hs6_11 => kernel_rfl
  case hf6_11 => kernel_rfl
  case hr6_11 => kernel_rfl
  case hQ6_11 => exact fun _ _ _ h => h
  case hy6_11 => exact Or.inl ⟨by rfl, fun w hSw => by go_simp <;> (try with_reducible rfl)⟩
  simp only [Act.put, List.setIfInBounds_toArray, List.set_cons_zero, List.set_cons_succ]
  refine' wpAnyH_take (i := 7) ?hi7_11 ?hs7_11 ?hf7_11 ?hr7_11 ?hQ7_11 ?hy7_11 (by assumption) ?rest7_11
  case hi7_11 => simp only [List.getElem?_toArray, List.getElem?_cons_succ, List.getElem?_cons_zero] <;> rfl
  case hs7_11 => kernel_rfl
  case hf7_11 => kernel_rfl
  case hr7_11 => kernel_rfl
  case hQ7_11 => exact fun _ _ _ h => h
  case hy7_11 => exact Or.inl ⟨by rfl, fun w hSw => by go_simp <;> (try with_reducible rfl)⟩
  simp only [Act.put, List.setIfInBounds_toArray, List.set_cons_zero, List.set_cons_succ]
  refine' wpAnyH_take (i := 8) ?hi8_11 ?hs8_11 ?hf8_11 ?hr8_11 ?hQ8_11 ?hy8_11 (by assumption) ?rest8_11
  case hi8_11 => simp only [List.getElem?_toArray, List.getElem?_cons_succ, List.getElem?_cons_zero] <;> rfl
  case hs8_11 => kernel_rfl
  case hf8_11 => kernel_rfl
  case hr8_11 => kernel_rfl
  case hQ8_11 => exact fun _ _ _ h => h
  case hy8_11 => exact Or.inl ⟨by rfl, fun w hSw => by have q0 := cell_keep p0 hSw; have q1 := cell_keep p1 hSw; have q2 := cell_keep x2 hSw; have q3 := cell_keep pt hSw; go_simp <;> (try with_reducible rfl)⟩
  simp only [Act.put, List.setIfInBounds_toArray, List.set_cons_zero, List.set_cons_succ]
  refine' wpAnyH_take (i := 9) ?hi9_11 ?hs9_11 ?hf9_11 ?hr9_11 ?hQ9_11 ?hy9_11 (by assumption) ?rest9_11
  case hi9_11 => simp only [List.getElem?_toArray, List.getElem?_cons_succ, List.getElem?_cons_zero] <;> rfl
  case hs9_11 => kernel_rfl
  case hf9_11 => kernel_rfl
  case hr9_11 => kernel_rfl
  case hQ9_11 => exact fun _ _ _ h => h
  case hy9_11 => exact Or.inl ⟨by rfl, fun w hSw => by have q0 := cell_keep p0 hSw; have q1 := cell_keep p1 hSw; have q2 := cell_keep x2 hSw; have q3 := cell_keep pt hSw; go_simp <;> (try with_reducible rfl)⟩
  simp only [Act.put, List.setIfInBounds_toArray, List.set_cons_zero, List.set_cons_succ]
  refine' wpAnyH_take (i := 10) ?hi10_11 ?hs10_11 ?hf10_11 ?hr10_11 ?hQ10_11 ?hy10_11 (by assumption) ?rest10_11
  case hi10_11 => simp only [List.getElem?_toArray, List.getElem?_cons_succ, List.getElem?_cons_zero] <;> rfl
  case hs10_11 => kernel_rfl
  case hf10_11 => kernel_rfl
  case hr10_11 => kernel_rfl
  case hQ10_11 => exact fun _ _ _ h => h
  case hy10_11 => exact Or.inl ⟨by rfl, fun w hSw => by have q0 := cell_keep p0 hSw; have q1 := cell_keep p1 hSw; have q2 := cell_keep x2 hSw; have q3 := cell_keep pt hSw; go_simp <;> (try with_reducible rfl)⟩
  simp only [Act.put, List.setIfInBounds_toArray, List.set_cons_zero, List.set_cons_succ]
  refine' wpAnyH_take (i := 11) ?hi11_11 ?hs11_11 ?hf11_11 ?hr11_11 ?hQ11_11 ?hy11_11 (by assumption) ?rest11_11
  case hi11_11 => simp only [List.getElem?_toArray, List.getElem?_cons_succ, List.getElem?_cons_zero] <;> rfl
  case hs11_11 => kernel_rfl
  case hf11_11 => kernel_rfl
  case hr11_11 => kernel_rfl
  case hQ11_11 => exact fun _ _ _ h => h
  case hy11_11 => exact Or.inl ⟨by rfl, fun w hSw => by have q0 := cell_keep p0 hSw; have q1 := cell_keep p1 hSw; have q2 := cell_keep x2 hSw; have q3 := cell_keep pt hSw; go_simp <;> (try with_reducible rfl)⟩
  simp only [Act.put, List.setIfInBounds_toArray, List.set_cons_zero, List.set_cons_succ]
  refine' wpAnyH_take (i := 12) ?hi12_11 ?hs12_11 ?hf12_11 ?hr12_11 ?hQ12_11 ?hy12_11 (by assumption) ?rest12_11
  case hi12_11 => simp only [List.getElem?_toArray, List.getElem?_cons_succ, List.getElem?_cons_zero] <;> rfl
  case hs12_11 => kernel_rfl
  case hf12_11 => kernel_rfl
  case hr12_11 => kernel_rfl
  case hQ12_11 => exact fun _ _ _ h => h
  case hy12_11 => exact Or.inl ⟨by rfl, fun w hSw => by have q0 := cell_keep p0 hSw; have q1 := cell_keep p1 hSw; have q2 := cell_keep x2 hSw; have q3 := cell_keep pt hSw; go_simp <;> (try with_reducible rfl)⟩
  simp only [Act.put, List.setIfInBounds_toArray, List.set_cons_zero, List.set_cons_succ]
  refine' wpAnyH_take (i := 13) ?hi13_11 ?hs13_11 ?hf13_11 ?hr13_11 ?hQ13_11 ?hy13_11 (by assumption) ?rest13_11
  case hi13_11 => simp only [List.getElem?_toArray, List.getElem?_cons_succ, List.getElem?_cons_zero] <;> rfl
  case hs13_11 => kernel_rfl
  case hf13_11 => kernel_rfl
  case hr13_11 => kernel_rfl
  case hQ13_11 => exact fun _ _ _ h => h
  case hy13_11 => exact Or.inl ⟨by rfl, fun w hSw => by have q0 := cell_keep p0 hSw; have q1 := cell_keep p1 hSw; have q2 := cell_keep x2 hSw; have q3 := cell_keep pt hSw; go_simp <;> (try with_reducible rfl)⟩
  simp only [Act.put, List.setIfInBounds_toArray, List.set_cons_zero, List.set_cons_succ]
  refine' wpAnyH_take (i := 14) ?hi14_11 ?hs14_11 ?hf14_11 ?hr14_11 ?hQ14_11 ?hy14_11 (by assumption) ?rest14_11
  case hi14_11 => simp only [List.getElem?_toArray, List.getElem?_cons_succ, List.getElem?_cons_zero] <;> rfl
  case hs14_11 => kernel_rfl
  case hf14_11 => kernel_rfl
  case hr14_11 => kernel_rfl
  case hQ14_11 => exact fun _ _ _ h => h
  case hy14_11 => exact Or.inl ⟨by rfl, fun w hSw => by have q0 := cell_keep p0 hSw; have q1 := cell_keep p1 hSw; have q2 := cell_keep x2 hSw; have q3 := cell_keep pt hSw; go_simp <;> (try with_reducible rfl)⟩
  simp only [Act.put, List.setIfInBounds_toArray, List.set_cons_zero, List.set_cons_succ]
  refine' wpAnyH_take (i := 15) ?hi15_11 ?hs15_11 ?hf15_11 ?hr15_11 ?hQ15_11 ?hy15_11 (by assumption) ?rest15_11
  case hi15_11 => simp only [List.getElem?_toArray, List.getElem?_cons_succ, List.getElem?_cons_zero] <;> rfl
  case hs15_11 => kernel_rfl
  case hf15_11 => kernel_rfl
  case hr15_11 => kernel_rfl
  case hQ15_11 => exact fun _ _ _ h => h
  case hy15_11 => exact Or.inl ⟨by rfl, fun w hSw => by have q0 := cell_keep p0 hSw; have q1 := cell_keep p1 hSw; have q2 := cell_keep x2 hSw; have q3 := cell_keep pt hSw; go_simp <;> (try with_reducible rfl)⟩
  simp only [Act.put, List.setIfInBounds_toArray, List.set_cons_zero, List.set_cons_succ]
  refine' wpAnyH_take (i := 16) ?hi16_11 ?hs16_11 ?hf16_11 ?hr16_11 ?hQ16_11 ?hy16_11 (by assumption) ?rest16_11
  case hi16_11 => simp only [List.getElem?_toArray, List.getElem?_cons_succ, List.getElem?_cons_zero] <;> rfl
  case hs16_11 => kernel_rfl
  case hf16_11 => kernel_rfl
  case hr16_11 => kernel_rfl
  case hQ16_11 => exact fun _ _ _ h => h
  case hy16_11 => exact Or.inl ⟨by rfl, fun w hSw => by have q0 := cell_keep p0 hSw; have q1 := cell_keep p1 hSw; have q2 := cell_keep x2 hSw; have q3 := cell_keep pt hSw; go_simp <;> (try with_reducible rfl)⟩
  simp only [Act.put, List.setIfInBounds_toArray, List.set_cons_zero, List.set_cons_succ]
  refine' wpAnyH_take (i := 17) ?hi17_11 ?hs17_11 ?hf17_11 ?hr17_11 ?hQ17_11 ?hy17_11 (by assumption) ?rest17_11
  case hi17_11 => simp only [List.getElem?_toArray, List.getElem?_cons_succ, List.getElem?_cons_zero] <;> rfl
  case hs17_11 => kernel_rfl
  case hf17_11 => kernel_rfl
  case hr17_11 => kernel_rfl
  case hQ17_11 => exact fun _ _ _ h => h
  case hy17_11 => exact Or.inl ⟨by rfl, fun w hSw => by have q0 := cell_keep p0 hSw; have q1 := cell_keep p1 hSw; have q2 := cell_keep x2 hSw; have q3 := cell_keep pt hSw; go_simp <;> (try with_reducible rfl)⟩
  simp only [Act.put, List.setIfInBounds_toArray, List.set_cons_zero, List.set_cons_succ]
  refine' wpAnyH_take (i := 18) ?hi18_11 ?hs18_11 ?hf18_11 ?hr18_11 ?hQ18_11 ?hy18_11 (by assumption) ?rest18_11
  case hi18_11 => simp only [List.getElem?_toArray, List.getElem?_cons_succ, List.getElem?_cons_zero] <;> rfl
  case hs18_11 => kernel_rfl
  case hf18_11 => kernel_rfl
  case hr18_11 => kernel_rfl
  case hQ18_11 => exact fun _ _ _ h => h
  case hy18_11 => exact Or.inl ⟨by rfl, fun w hSw => by have q0 := cell_keep p0 hSw; have q1 := cell_keep p1 hSw; have q2 := cell_keep x2 hSw; have q3 := cell_keep pt hSw; go_simp <;> (try with_reducible rfl)⟩
  simp only [Act.put, List.setIfInBounds_toArray, List.set_cons_zero, List.set_cons_succ]
  refine' wpAnyH_take (i := 19) ?hi19_11 ?hs19_11 ?hf19_11 ?hr19_11 ?hQ19_11 ?hy19_11 (by assumption) ?rest19_11
  case hi19_11 => simp only [List.getElem?_toArray, List.getElem?_cons_succ, List.getElem?_cons_zero] <;> rfl
  case hs19_11 => kernel_rfl
  case hf19_11 => kernel_rfl
  case hr19_11 => kernel_rfl
  case hQ19_11 => exact fun _ _ _ h => h
  case hy19_11 => exact Or.inl ⟨by rfl, fun w hSw => by have q0 := cell_keep p0 hSw; have q1 := cell_keep p1 hSw; have q2 := cell_keep x2 hSw; have q3 := cell_keep pt hSw; go_simp <;> (try with_reducible rfl)⟩
  simp only [Act.put, List.setIfInBounds_toArray, List.set_cons_zero, List.set_cons_succ]
  refine' wpAnyH_take (i := 20) ?hi20_11 ?hs20_11 ?hf20_11 ?hr20_11 ?hQ20_11 ?hy20_11 (by assumption) ?rest20_11
  case hi20_11 => simp only [List.getElem?_toArray, List.getElem?_cons_succ, List.getElem?_cons_zero] <;> rfl
  case hs20_11 => kernel_rfl
  case hf20_11 => kernel_rfl
  case hr20_11 => kernel_rfl
  case hQ20_11 => exact fun _ _ _ h => h
  case hy20_11 => exact Or.inl ⟨by rfl, fun w hSw => by have q0 := cell_keep p0 hSw; have q1 := cell_keep p1 hSw; have q2 := cell_keep x2 hSw; have q3 := cell_keep pt hSw; go_simp <;> (try with_reducible rfl)⟩
  simp only [Act.put, List.setIfInBounds_toArray, List.set_cons_zero, List.set_cons_succ]
  refine' wpAnyH_take (i := 21) ?hi21_11 ?hs21_11 ?hf21_11 ?hr21_11 ?hQ21_11 ?hy21_11 (by assumption) ?rest21_11
  case hi21_11 => simp only [List.getElem?_toArray, List.getElem?_cons_succ, List.getElem?_cons_zero] <;> rfl
  case hs21_11 => kernel_rfl
  case hf21_11 => kernel_rfl
  case hr21_11 => kernel_rfl
  case hQ21_11 => exact fun _ _ _ h => h
  case hy21_11 => exact Or.inl ⟨by rfl, fun w hSw => by have q0 := cell_keep p0 hSw; have q1 := cell_keep p1 hSw; have q2 := cell_keep x2 hSw; have q3 := cell_keep pt hSw; go_simp <;> (try with_reducible rfl)⟩
  simp only [Act.put, List.setIfInBounds_toArray, List.set_cons_zero, List.set_cons_succ]
  refine' wpAnyH_take (i := 22) ?hi22_11 ?hs22_11 ?hf22_11 ?hr22_11 ?hQ22_11 ?hy22_11 (by assumption) ?rest22_11
  case hi22_11 => simp only [List.getElem?_toArray, List.getElem?_cons_succ, List.getElem?_cons_zero] <;> rfl
  case hs22_11 => kernel_rfl
  case hf22_11 => kernel_rfl
  case hr22_11 => kernel_rfl
  case hQ22_11 => exact fun _ _ _ h => h
  case hy22_11 => exact Or.inl ⟨by rfl, fun w hSw => by have q0 := cell_keep p0 hSw; have q1 := cell_keep p1 hSw; have q2 := cell_keep x2 hSw; have q3 := cell_keep pt hSw; go_simp <;> (try with_reducible rfl)⟩
  simp only [Act.put, List.setIfInBounds_toArray, List.set_cons_zero, List.set_cons_succ]
  refine' wpAnyH_take (i := 23) ?hi23_11 ?hs23_11 ?hf23_11 ?hr23_11 ?hQ23_11 ?hy23_11 (by assumption) ?rest23_11
  case hi23_11 => simp only [List.getElem?_toArray, List.getElem?_cons_succ, List.getElem?_cons_zero] <;> rfl
  case hs23_11 => kernel_rfl
  case hf23_11 => kernel_rfl
  case hr23_11 => kernel_rfl
  case hQ23_11 => exact fun _ _ _ h => h
  case hy23_11 => exact Or.inl ⟨by rfl, fun w hSw => by have q0 := cell_keep p0 hSw; have q1 := cell_keep p1 hSw; have q2 := cell_keep x2 hSw; have q3 := cell_keep pt hSw; go_simp <;> (try with_reducible rfl)⟩
  simp only [Act.put, List.setIfInBounds_toArray, List.set_cons_zero, List.set_cons_succ]
  refine wpAnyH_done (by kernel_rfl) ?_ _
  refine NoPanic.normal ?_
  have K2 := Keeps.trans K1 h2
  have B2 := B1.keep h2
  have z2 := h2.size
  clear p0 p1 x2 pt k2 B1
  go_wp2_with fail
  go_loopw [66] (fun i wr => ∃ k : Nat, k ≤ nm ∧ i = .int .i64 k ∧ Keeps w2 wr) (fun i _ => nm - (intOf i).toNat)
  case atStart => exact ⟨0, by omega, rfl, Touch.refl _ _⟩
  case round =>
  obtain ⟨w3, rfl⟩ : ∃ w3 : World, w3 = wr := ⟨_, rfl⟩
  obtain ⟨k, hk, rfl, k3⟩ := hrel
  by_cases hlt : k < nm
  · have hltI : (k : Int) < nm := by omega
    by_cases hk0 : k = 0
    · have hk0d : decide ((0 : Int) < k) = false := decide_eq_false (by omega)
      have hk0n : decide (0 < k) = false := decide_eq_false (by omega)
      clear hk0
      go_wp2_with fail
      refine wp_region_noPanic ?_
      refine wp_region_held_drew (S := (fun w' => Keeps w3 w')) (by kernel_rfl) (Touch.refl _ w3).drew (fun hHeld => ?_)
      refine' wpAnyH_take (i := 0) ?hi0_12 ?hs0_12 ?hf0_12 ?hr0_12 ?hQ0_12 ?hy0_12 (by assumption) ?rest0_12
      case hi0_12 => simp only [List.getElem?_toArray, List.getElem?_cons_zero] <;> rfl
      case hs0_12 => kernel_rfl
      case hf0_12 => kernel_rfl
      case hr0_12 => kernel_rfl
      case hQ0_12 => exact fun _ _ _ h => h
      case hy0_12 => exact Or.inl ⟨by rfl, fun w hSw => by go_simp <;> (try with_reducible rfl)⟩
      simp only [Act.put, List.setIfInBounds_toArray, List.set_cons_zero, List.set_cons_succ]
      refine' wpAnyH_take (i := 1) ?hi1_12 ?hs1_12 ?hf1_12 ?hr1_12 ?hQ1_12 ?hy1_12 (by assumption) ?rest1_12
      case hi1_12 => simp only [List.getElem?_toArray, List.getElem?_cons_succ, List.getElem?_cons_zero] <;> rfl
      case hs1_12 => kernel_rfl
      case hf1_12 => kernel_rfl
      case hr1_12 => kernel_rfl
      case hQ1_12 => exact fun _ _ _ h => h
      case hy1_12 => exact Or.inl ⟨by rfl, fun w hSw => by go_simp <;> (try with_reducible rfl)⟩
      simp only [Act.put, List.setIfInBounds_toArray, List.set_cons_zero, List.set_cons_succ]
      refine' wpAnyH_take (i := 2) ?hi2_12 ?hs2_12 ?hf2_12 ?hr2_12 ?hQ2_12 ?hy2_12 (by assumption) ?rest2_12
      case hi2_12 => simp only [List.getElem?_toArray, List.getElem?_cons_succ, List.getElem?_cons_zero] <;> rfl
      case hs2_12 => kernel_rfl
      case hf2_12 => kernel_rfl
      case hr2_12 => kernel_rfl
      case hQ2_12 => exact fun _ _ _ h => h
      case hy2_12 => exact Or.inl ⟨by rfl, fun w hSw => by go_simp <;> (try with_reducible rfl)⟩
      simp only [Act.put, List.setIfInBounds_toArray, List.set_cons_zero, List.set_cons_succ]
      refine' wpAnyH_take (i := 3) ?hi3_12 ?hs3_12 ?hf3_12 ?hr3_12 ?hQ3_12 ?hy3_12 (by assumption) ?rest3_12
      case hi3_12 => simp only [List.getElem?_toArray, List.getElem?_cons_succ, List.getElem?_cons_zero] <;> rfl
      case hs3_12 => kernel_rfl
      case hf3_12 => kernel_rfl
      case hr3_12 => kernel_rfl
      case hQ3_12 => exact fun _ _ _ h => h
      case hy3_12 => exact Or.inr ⟨by kernel_rfl, rfl⟩
      simp only [Act.put, List.setIfInBounds_toArray, List.set_cons_zero, List.set_cons_succ]
      refine' wpAnyH_take (i := 4) ?hi4_12 ?hs4_12 ?hf4_12 ?hr4_12 ?hQ4_12 ?hy4_12 (by assumption) ?rest4_12
      case hi4_12 => simp only [List.getElem?_toArray, List.getElem?_cons_succ, List.getElem?_cons_zero] <;> rfl
      case hs4_12 => kernel_rfl
      case hf4_12 => kernel_rfl
      case hr4_12 => kernel_rfl
      case hQ4_12 => exact fun _ _ _ h => h
      case hy4_12 => exact Or.inr ⟨by kernel_rfl, rfl⟩
      simp only [Act.put, List.setIfInBounds_toArray, List.set_cons_zero, List.set_cons_succ]
      refine' wpAnyH_take (i := 5) ?hi5_12 ?hs5_12 ?hf5_12 ?hr5_12 ?hQ5_12 ?hy5_12 (by assumption) ?rest5_12
      case hi5_12 => simp only [List.getElem?_toArray, List.getElem?_cons_succ, List.getElem?_cons_zero] <;> rfl
      case hs5_12 => kernel_rfl
      case hf5_12 => kernel_rfl
      case hr5_12 => kernel_rfl
      case hQ5_12 => exact fun _ _ _ h => h
      case hy5_12 => exact Or.inr ⟨by kernel_rfl, rfl⟩
      simp only [Act.put, List.setIfInBounds_toArray, List.set_cons_zero, List.set_cons_succ]
      refine' wpAnyH_take (i := 6) ?hi6_12 ?hs6_12 ?hf6_12 ?hr6_12 ?hQ6_12 ?hy6_12 (by assumption) ?rest6_12
      case hi6_12 => simp only [List.getElem?_toArray, List.getElem?_cons_succ, List.getElem?_cons_zero] <;> rfl
      case hs6_12 => kernel_rfl
      case hf6_12 => kernel_rfl
      case hr6_12 => kernel_rfl
      case hQ6_12 => exact fun _ _ _ h => h
      case hy6_12 => exact Or.inr ⟨by kernel_rfl, rfl⟩
      simp only [Act.put, List.setIfInBounds_toArray, List.set_cons_zero, List.set_cons_succ]
      refine' wpAnyH_take (i := 7) ?hi7_12 ?hs7_12 ?hf7_12 ?hr7_12 ?hQ7_12 ?hy7_12 (by assumption) ?rest7_12
      case hi7_12 => simp only [List.getElem?_toArray, List.getElem?_cons_succ, List.getElem?_cons_zero] <;> rfl
      case hs7_12 => kernel_rfl
      case hf7_12 => kernel_rfl
      case hr7_12 => kernel_rfl
      case hQ7_12 => exact fun _ _ _ h => h
      case hy7_12 => exact Or.inr ⟨by kernel_rfl, rfl⟩
      simp only [Act.put, List.setIfInBounds_toArray, List.set_cons_zero, List.set_cons_succ]
      refine' wpAnyH_take (i := 8) ?hi8_12 ?hs8_12 ?hf8_12 ?hr8_12 ?hQ8_12 ?hy8_12 (by assumption) ?rest8_12
      case hi8_12 => simp only [List.getElem?_toArray, List.getElem?_cons_succ, List.getElem?_cons_zero] <;> rfl
      case hs8_12 => kernel_rfl
      case hf8_12 => kernel_rfl
      case hr8_12 => kernel_rfl
      case hQ8_12 => exact fun _ _ _ h => h
      case hy8_12 => exact Or.inr ⟨by kernel_rfl, rfl⟩
      simp only [Act.put, List.setIfInBounds_toArray, List.set_cons_zero, List.set_cons_succ]
      refine' wpAnyH_take (i := 9) ?hi9_12 ?hs9_12 ?hf9_12 ?hr9_12 ?hQ9_12 ?hy9_12 (by assumption) ?rest9_12
      case hi9_12 => simp only [List.getElem?_toArray, List.getElem?_cons_succ, List.getElem?_cons_zero] <;> rfl
      case hs9_12 => kernel_rfl
      case hf9_12 => kernel_rfl
      case hr9_12 => kernel_rfl
      case hQ9_12 => exact fun _ _ _ h => h
      case hy9_12 => exact Or.inr ⟨by kernel_rfl, rfl⟩
      simp only [Act.put, List.setIfInBounds_toArray, List.set_cons_zero, List.set_cons_succ]
      refine' wpAnyH_take (i := 10) ?hi10_12 ?hs10_12 ?hf10_12 ?hr10_12 ?hQ10_12 ?hy10_12 (by assumption) ?rest10_12
      case hi10_12 => simp only [List.getElem?_toArray, List.getElem?_cons_succ, List.getElem?_cons_zero] <;> rfl
      case hs10_12 => kernel_rfl
      case hf10_12 => kernel_rfl
      case hr10_12 => kernel_rfl
      case hQ10_12 => exact fun _ _ _ h => h
      case hy10_12 => exact Or.inr ⟨by kernel_rfl, rfl⟩
      simp only [Act.put, List.setIfInBounds_toArray, List.set_cons_zero, List.set_cons_succ]
      refine' wpAnyH_take (i := 11) ?hi11_12 ?hs11_12 ?hf11_12 ?hr11_12 ?hQ11_12 ?hy11_12 (by assumption) ?rest11_12
      case hi11_12 => simp only [List.getElem?_toArray, List.getElem?_cons_succ, List.getElem?_cons_zero] <;> rfl
      case hs11_12 => kernel_rfl
      case hf11_12 => kernel_rfl
      case hr11_12 => kernel_rfl
      case hQ11_12 => exact fun _ _ _ h => h
      case hy11_12 => exact Or.inr ⟨by kernel_rfl, rfl⟩
      simp only [Act.put, List.setIfInBounds_toArray, List.set_cons_zero, List.set_cons_succ]
      refine' wpAnyH_take (i := 12) ?hi12_12 ?hs12_12 ?hf12_12 ?hr12_12 ?hQ12_12 ?hy12_12 (by assumption) ?rest12_12
      case hi12_12 => simp only [List.getElem?_toArray, List.getElem?_cons_succ, List.getElem?_cons_zero] <;> rfl
      case hs12_12 => kernel_rfl
      case hf12_12 => kernel_rfl
      case hr12_12 => kernel_rfl
      case hQ12_12 => exact fun _ _ _ h => h
      case hy12_12 => exact Or.inr ⟨by kernel_rfl, rfl⟩
      simp only [Act.put, List.setIfInBounds_toArray, List.set_cons_zero, List.set_cons_succ]
      refine' wpAnyH_take (i := 13) ?hi13_12 ?hs13_12 ?hf13_12 ?hr13_12 ?hQ13_12 ?hy13_12 (by assumption) ?rest13_12
      case hi13_12 => simp only [List.getElem?_toArray, List.getElem?_cons_succ, List.getElem?_cons_zero] <;> rfl
      case hs13_12 => kernel_rfl
      case hf13_12 => kernel_rfl
      case hr13_12 => kernel_rfl
      case hQ13_12 => exact fun _ _ _ h => h
      case hy13_12 => exact Or.inl ⟨by rfl, fun w hSw => by go_simp <;> (try with_reducible rfl)⟩
      simp only [Act.put, List.setIfInBounds_toArray, List.set_cons_zero, List.set_cons_succ]
      refine wpAnyH_done (by kernel_rfl) ?_ _
      refine NoPanic.normal ?_
      go_wp2_with fail
      go_roundw
      case rel => exact ⟨k + 1, by omega, by go_num, k3.drewN _⟩
      case measure => simp [intOf]; omega
    · obtain ⟨k1, hk1⟩ : ∃ k1 : Nat, k1 + 1 = k := ⟨k - 1, by omega⟩
      have hk0I : (0 : Int) < k := by omega
      have hk0N : 0 < k := by omega
      have gk : IntKind.i64.wrap ((k : Int) - 1) = k1 := by rw [IntWalk.i64_in _ ⟨by omega, by omega⟩]; omega
      have hk1I : (k1 : Int) < nm := by omega
      obtain ⟨b1, q1, rfl, y1⟩ := (HSr.out.keep (Keeps.trans K2 k3)).one hlt
      obtain ⟨b2, q2, e2, y2⟩ := (HSr.out.keep (Keeps.trans K2 k3)).one (show k1 < nm by omega)
      simp only [Option.some.injEq, Addr.mk.injEq, and_true] at e2
      obtain ⟨rfl, rfl⟩ := e2
      have d1 : w3.cell? ⟨b1, q1 + k, none⟩ = some (.int .i64 (S k)) := y1
      have d2 : w3.cell? ⟨b1, q1 + k1, none⟩ = some (.int .i64 (S k1)) := y2
      have hd : decide (S k ≤ S k1) = false := decide_eq_false (by have := HRise.out k1 (by omega); rw [hk1] at this; omega)
      clear y1 y2 hk0
      have HK1 := Lib.hid hk1
      clear hk1
      go_wp2_with fail
      refine wp_region_noPanic ?_
      refine wp_region_held_drew (S := (fun w' => Keeps w3 w')) (by kernel_rfl) (Touch.refl _ w3).drew (fun hHeld => ?_)
      refine' wpAnyH_take (i := 0) ?hi0_13 ?hs0_13 ?hf0_13 ?hr0_13 ?hQ0_13 ?hy0_13 (by assumption) ?rest0_13
      case hi0_13 => simp only [List.getElem?_toArray, List.getElem?_cons_zero] <;> rfl
      case hs0_13 => kernel_rfl
      case hf0_13 => kernel_rfl
      case hr0_13 => kernel_rfl
      case hQ0_13 => exact fun _ _ _ h => h
      case hy0_13 => exact Or.inl ⟨by rfl, fun w hSw => by have q0 := cell_keep d1 hSw; have q1 := cell_keep d2 hSw; go_simp <;> (try with_reducible rfl)⟩
      simp only [Act.put, List.setIfInBounds_toArray, List.set_cons_zero, List.set_cons_succ]
      refine' wpAnyH_take (i := 1) ?hi1_13 ?hs1_13 ?hf1_13 ?hr1_13 ?hQ1_13 ?hy1_13 (by assumption) ?rest1_13
      case hi1_13 => simp only [List.getElem?_toArray, List.getElem?_cons_succ, List.getElem?_cons_zero] <;> rfl
      case hs1_13 => kernel_rfl
      case hf1_13 => kernel_rfl
      case hr1_13 => kernel_rfl
      case hQ1_13 => exact fun _ _ _ h => h
      case hy1_13 => exact Or.inl ⟨by rfl, fun w hSw => by have q0 := cell_keep d1 hSw; have q1 := cell_keep d2 hSw; go_simp <;> (try with_reducible rfl)⟩
      simp only [Act.put, List.setIfInBounds_toArray, List.set_cons_zero, List.set_cons_succ]
      refine' wpAnyH_take (i := 2) ?hi2_13 ?hs2_13 ?hf2_13 ?hr2_13 ?hQ2_13 ?hy2_13 (by assumption) ?rest2_13
      case hi2_13 => simp only [List.getElem?_toArray, List.getElem?_cons_succ, List.getElem?_cons_zero] <;> rfl
      case hs2_13 => kernel_rfl
      case hf2_13 => kernel_rfl
      case hr2_13 => kernel_rfl
      case hQ2_13 => exact fun _ _ _ h => h
      case hy2_13 => exact Or.inl ⟨by rfl, fun w hSw => by have q0 := cell_keep d1 hSw; have q1 := cell_keep d2 hSw; go_simp <;> (try with_reducible rfl)⟩
      simp only [Act.put, List.setIfInBounds_toArray, List.set_cons_zero, List.set_cons_succ]
      refine' wpAnyH_take (i := 3) ?hi3_13 ?hs3_13 ?hf3_13 ?hr3_13 ?hQ3_13 ?hy3_13 (by assumption) ?rest3_13
      case hi3_13 => simp only [List.getElem?_toArray, List.getElem?_cons_succ, List.getElem?_cons_zero] <;> rfl
      case hs3_13 => kernel_rfl
      case hf3_13 => kernel_rfl
      case hr3_13 => kernel_rfl
      case hQ3_13 => exact fun _ _ _ h => h
      case hy3_13 => exact Or.inl ⟨by rfl, fun w hSw => by have q0 := cell_keep d1 hSw; have q1 := cell_keep d2 hSw; go_simp <;> (try with_reducible rfl)⟩
      simp only [Act.put, List.setIfInBounds_toArray, List.set_cons_zero, List.set_cons_succ]
      refine' wpAnyH_take (i := 4) ?hi4_13 ?hs4_13 ?hf4_13 ?hr4_13 ?hQ4_13 ?hy4_13 (by assumption) ?rest4_13
      case hi4_13 => simp only [List.getElem?_toArray, List.getElem?_cons_succ, List.getElem?_cons_zero] <;> rfl
      case hs4_13 => kernel_rfl
      case hf4_13 => kernel_rfl
      case hr4_13 => kernel_rfl
      case hQ4_13 => exact fun _ _ _ h => h
      case hy4_13 => exact Or.inl ⟨by rfl, fun w hSw => by have q0 := cell_keep d1 hSw; have q1 := cell_keep d2 hSw; go_simp <;> (try with_reducible rfl)⟩
      simp only [Act.put, List.setIfInBounds_toArray, List.set_cons_zero, List.set_cons_succ]
      refine' wpAnyH_take (i := 5) ?hi5_13 ?hs5_13 ?hf5_13 ?hr5_13 ?hQ5_13 ?hy5_13 (by assumption) ?rest5_13
      case hi5_13 => simp only [List.getElem?_toArray, List.getElem?_cons_succ, List.getElem?_cons_zero] <;> rfl
      case hs5_13 => kernel_rfl
      case hf5_13 => kernel_rfl
      case hr5_13 => kernel_rfl
      case hQ5_13 => exact fun _ _ _ h => h
      case hy5_13 => exact Or.inl ⟨by rfl, fun w hSw => by have q0 := cell_keep d1 hSw; have q1 := cell_keep d2 hSw; go_simp <;> (try with_reducible rfl)⟩
      simp only [Act.put, List.setIfInBounds_toArray, List.set_cons_zero, List.set_cons_succ]
      refine' wpAnyH_take (i := 6) ?hi6_13 ?hs6_13 ?hf6_13 ?hr6_13 ?hQ6_13 ?hy6_13 (by assumption) ?rest6_13
      case hi6_13 => simp only [List.getElem?_toArray, List.getElem?_cons_succ, List.getElem?_cons_zero] <;> rfl
      case hs6_13 => kernel_rfl
      case hf6_13 => kernel_rfl
      case hr6_13 => kernel_rfl
      case hQ6_13 => exact fun _ _ _ h => h
      case hy6_13 => exact Or.inl ⟨by rfl, fun w hSw => by have q0 := cell_keep d1 hSw; have q1 := cell_keep d2 hSw; go_simp <;> (try with_reducible rfl)⟩
      simp only [Act.put, List.setIfInBounds_toArray, List.set_cons_zero, List.set_cons_succ]
      refine' wpAnyH_take (i := 7) ?hi7_13 ?hs7_13 ?hf7_13 ?hr7_13 ?hQ7_13 ?hy7_13 (by assumption) ?rest7_13
      case hi7_13 => simp only [List.getElem?_toArray, List.getElem?_cons_succ, List.getElem?_cons_zero] <;> rfl
      case hs7_13 => kernel_rfl
      case hf7_13 => kernel_rfl
      case hr7_13 => kernel_rfl
      case hQ7_13 => exact fun _ _ _ h => h
      case hy7_13 => exact Or.inl ⟨by rfl, fun w hSw => by have q0 := cell_keep d1 hSw; have q1 := cell_keep d2 hSw; go_simp <;> (try with_reducible rfl)⟩
      simp only [Act.put, List.setIfInBounds_toArray, List.set_cons_zero, List.set_cons_succ]
      refine' wpAnyH_take (i := 8) ?hi8_13 ?hs8_13 ?hf8_13 ?hr8_13 ?hQ8_13 ?hy8_13 (by assumption) ?rest8_13
      case hi8_13 => simp only [List.getElem?_toArray, List.getElem?_cons_succ, List.getElem?_cons_zero] <;> rfl
      case hs8_13 => kernel_rfl
      case hf8_13 => kernel_rfl
      case hr8_13 => kernel_rfl
      case hQ8_13 => exact fun _ _ _ h => h
      case hy8_13 => exact Or.inl ⟨by rfl, fun w hSw => by have q0 := cell_keep d1 hSw; have q1 := cell_keep d2 hSw; go_simp <;> (try with_reducible rfl)⟩
      simp only [Act.put, List.setIfInBounds_toArray, List.set_cons_zero, List.set_cons_succ]
      refine' wpAnyH_take (i := 9) ?hi9_13 ?hs9_13 ?hf9_13 ?hr9_13 ?hQ9_13 ?hy9_13 (by assumption) ?rest9_13
      case hi9_13 => simp only [List.getElem?_toArray, List.getElem?_cons_succ, List.getElem?_cons_zero] <;> rfl
      case hs9_13 => kernel_rfl
      case hf9_13 => kernel_rfl
      case hr9_13 => kernel_rfl
      case hQ9_13 => exact fun _ _ _ h => h
      case hy9_13 => exact Or.inl ⟨by rfl, fun w hSw => by have q0 := cell_keep d1 hSw; have q1 := cell_keep d2 hSw; go_simp <;> (try with_reducible rfl)⟩
      simp only [Act.put, List.setIfInBounds_toArray, List.set_cons_zero, List.set_cons_succ]
      refine' wpAnyH_take (i := 10) ?hi10_13 ?hs10_13 ?hf10_13 ?hr10_13 ?hQ10_13 ?hy10_13 (by assumption) ?rest10_13
      case hi10_13 => simp only [List.getElem?_toArray, List.getElem?_cons_succ, List.getElem?_cons_zero] <;> rfl
      case hs10_13 => kernel_rfl
      case hf10_13 => kernel_rfl
      case hr10_13 => kernel_rfl
      case hQ10_13 => exact fun _ _ _ h => h
      case hy10_13 => exact Or.inl ⟨by rfl, fun w hSw => by have q0 := cell_keep d1 hSw; have q1 := cell_keep d2 hSw; go_simp <;> (try with_reducible rfl)⟩
      simp only [Act.put, List.setIfInBounds_toArray, List.set_cons_zero, List.set_cons_succ]
      refine' wpAnyH_take (i := 11) ?hi11_13 ?hs11_13 ?hf11_13 ?hr11_13 ?hQ11_13 ?hy11_13 (by assumption) ?rest11_13
      case hi11_13 => simp only [List.getElem?_toArray, List.getElem?_cons_succ, List.getElem?_cons_zero] <;> rfl
      case hs11_13 => kernel_rfl
      case hf11_13 => kernel_rfl
      case hr11_13 => kernel_rfl
      case hQ11_13 => exact fun _ _ _ h => h
      case hy11_13 => exact Or.inl ⟨by rfl, fun w hSw => by have q0 := cell_keep d1 hSw; have q1 := cell_keep d2 hSw; go_simp <;> (try with_reducible rfl)⟩
      simp only [Act.put, List.setIfInBounds_toArray, List.set_cons_zero, List.set_cons_succ]
      refine' wpAnyH_take (i := 12) ?hi12_13 ?hs12_13 ?hf12_13 ?hr12_13 ?hQ12_13 ?hy12_13 (by assumption) ?rest12_13
      case hi12_13 => simp only [List.getElem?_toArray, List.getElem?_cons_succ, List.getElem?_cons_zero] <;> rfl
      case hs12_13 => kernel_rfl
      case hf12_13 => kernel_rfl
      case hr12_13 => kernel_rfl
      case hQ12_13 => exact fun _ _ _ h => h
      case hy12_13 => exact Or.inl ⟨by rfl, fun w hSw => by have q0 := cell_keep d1 hSw; have q1 := cell_keep d2 hSw; go_simp <;> (try with_reducible rfl)⟩
      simp only [Act.put, List.setIfInBounds_toArray, List.set_cons_zero, List.set_cons_succ]
      refine' wpAnyH_take (i := 13) ?hi13_13 ?hs13_13 ?hf13_13 ?hr13_13 ?hQ13_13 ?hy13_13 (by assumption) ?rest13_13
      case hi13_13 => simp only [List.getElem?_toArray, List.getElem?_cons_succ, List.getElem?_cons_zero] <;> rfl
      case hs13_13 => kernel_rfl
      case hf13_13 => kernel_rfl
      case hr13_13 => kernel_rfl
      case hQ13_13 => exact fun _ _ _ h => h
      case hy13_13 => exact Or.inl ⟨by rfl, fun w hSw => by go_simp <;> (try with_reducible rfl)⟩
      simp only [Act.put, List.setIfInBounds_toArray, List.set_cons_zero, List.set_cons_succ]
      refine wpAnyH_done (by kernel_rfl) ?_ _
      refine NoPanic.normal ?_
      go_wp2_with fail
      go_roundw
      case rel => exact ⟨k + 1, by omega, by go_num, k3.drewN _⟩
      case measure => simp [intOf]; omega
  · obtain rfl : nm = k := by omega
    have K3_ := Keeps.trans K2 k3
    have B3_ := B2.keep k3
    clear B2 K2 h2
    obtain ⟨w2', hw2'⟩ : ∃ X, X = w3 := ⟨_, rfl⟩
    subst hw2'
    go_wp2_with fail
    go_loopw [12, 86] (fun v i wr => ∃ j : Nat, j ≤ 3 ∧ i = .int .i64 j ∧ OwnInts wr w2'.heap.size v (allG G j) ∧ (allG G j).length ≤ 500 * j ∧ Keeps w2' wr) (fun _ i _ => 3 - (intOf i).toNat)
    case atStart => exact ⟨0, by omega, rfl, OwnInts.nil_ _ _, by simp [allG], Touch.refl _ _⟩
    case round =>
    obtain ⟨w3, rfl⟩ : ∃ w3 : World, w3 = wr := ⟨_, rfl⟩
    obtain ⟨j, hj, rfl, hown, hal, kj⟩ := hrel
    have HO := Lib.hid hown
    have K3 := Keeps.trans K3_ kj
    have B3 := B3_.keep kj
    have p0 := B3.c 0 _ rfl
    have p1 := B3.c 1 _ rfl
    have z3 := kj.size
    clear hown
    by_cases hlt : j < 3
    · have hltI : (j : Int) < 3 := by omega
      obtain ⟨b, o, eo, e0, e1, e2⟩ := (HDr.out.keep K3).sp hlt
      simp only [Option.some.injEq, Addr.mk.injEq, and_true] at eo
      obtain ⟨rfl, rfl⟩ := eo
      have hgl := HGl.out j hlt
      clear e2
      go_wp2_with fail
      refine wp_region_noPanic ?_
      refine wp_region_held_drew (S := (fun w' => Keeps w3 w')) (by kernel_rfl) (Touch.refl _ w3).drew (fun hHeld => ?_)
      refine' wpAnyH_take (i := 0) ?hi0_14 ?hs0_14 ?hf0_14 ?hr0_14 ?hQ0_14 ?hy0_14 (by assumption) ?rest0_14
      case hi0_14 => simp only [List.getElem?_toArray, List.getElem?_cons_zero] <;> rfl
      case hs0_14 => kernel_rfl
      case hf0_14 => kernel_rfl
      case hr0_14 => kernel_rfl
      case hQ0_14 => exact fun _ _ _ h => h
      case hy0_14 => exact Or.inl ⟨by rfl, fun w hSw => by have q0 := cell_keep p0 hSw; have q1 := cell_keep p1 hSw; have q2 := cell_keep e0 hSw; have q3 := cell_keep e1 hSw; go_simp <;> (try with_reducible rfl)⟩
      simp only [Act.put, List.setIfInBounds_toArray, List.set_cons_zero, List.set_cons_succ]
      refine' wpAnyH_take (i := 1) ?hi1_14 ?hs1_14 ?hf1_14 ?hr1_14 ?hQ1_14 ?hy1_14 (by assumption) ?rest1_14
      case hi1_14 => simp only [List.getElem?_toArray, List.getElem?_cons_succ, List.getElem?_cons_zero] <;> rfl
      case hs1_14 => kernel_rfl
      case hf1_14 => kernel_rfl
      case hr1_14 => kernel_rfl
      case hQ1_14 => exact fun _ _ _ h => h
      case hy1_14 => exact Or.inl ⟨by rfl, fun w hSw => by have q0 := cell_keep p0 hSw; have q1 := cell_keep p1 hSw; have q2 := cell_keep e0 hSw; have q3 := cell_keep e1 hSw; go_simp <;> (try with_reducible rfl)⟩
      simp only [Act.put, List.setIfInBounds_toArray, List.set_cons_zero, List.set_cons_succ]
      refine' wpAnyH_take (i := 2) ?hi2_14 ?hs2_14 ?hf2_14 ?hr2_14 ?hQ2_14 ?hy2_14 (by assumption) ?rest2_14
      case hi2_14 => simp only [List.getElem?_toArray, List.getElem?_cons_succ, List.getElem?_cons_zero] <;> rfl
      case hs2_14 => kernel_rfl
      case hf2_14 => kernel_rfl
      case hr2_14 => kernel_rfl
      case hQ2_14 => exact fun _ _ _ h => h
      case hy2_14 => exact Or.inl ⟨by rfl, fun w hSw => by have q0 := cell_keep p0 hSw; have q1 := cell_keep p1 hSw; have q2 := cell_keep e0 hSw; have q3 := cell_keep e1 hSw; go_simp <;> (try with_reducible rfl)⟩
      simp only [Act.put, List.setIfInBounds_toArray, List.set_cons_zero, List.set_cons_succ]
      refine' wpAnyH_take (i := 3) ?hi3_14 ?hs3_14 ?hf3_14 ?hr3_14 ?hQ3_14 ?hy3_14 (by assumption) ?rest3_14
      case hi3_14 => simp only [List.getElem?_toArray, List.getElem?_cons_succ, List.getElem?_cons_zero] <;> rfl
      case hs3_14 => kernel_rfl
      case hf3_14 => kernel_rfl
      case hr3_14 => kernel_rfl
      case hQ3_14 => exact fun _ _ _ h => h
      case hy3_14 => exact Or.inl ⟨by rfl, fun w hSw => by have q0 := cell_keep p0 hSw; have q1 := cell_keep p1 hSw; have q2 := cell_keep e0 hSw; have q3 := cell_keep e1 hSw; go_simp <;> (try with_reducible rfl)⟩
      simp only [Act.put, List.setIfInBounds_toArray, List.set_cons_zero, List.set_cons_succ]
      refine' wpAnyH_take (i := 4) ?hi4_14 ?hs4_14 ?hf4_14 ?hr4_14 ?hQ4_14 ?hy4_14 (by assumption) ?rest4_14
      case hi4_14 => simp only [List.getElem?_toArray, List.getElem?_cons_succ, List.getElem?_cons_zero] <;> rfl
      case hs4_14 => kernel_rfl
      case hf4_14 => kernel_rfl
      case hr4_14 => kernel_rfl
      case hQ4_14 => exact fun _ _ _ h => h
      case hy4_14 => exact Or.inl ⟨by rfl, fun w hSw => by have q0 := cell_keep p0 hSw; have q1 := cell_keep p1 hSw; have q2 := cell_keep e0 hSw; have q3 := cell_keep e1 hSw; go_simp <;> (try with_reducible rfl)⟩
      simp only [Act.put, List.setIfInBounds_toArray, List.set_cons_zero, List.set_cons_succ]
      refine' wpAnyH_take (i := 5) ?hi5_14 ?hs5_14 ?hf5_14 ?hr5_14 ?hQ5_14 ?hy5_14 (by assumption) ?rest5_14
      case hi5_14 => simp only [List.getElem?_toArray, List.getElem?_cons_succ, List.getElem?_cons_zero] <;> rfl
      case hs5_14 => kernel_rfl
      case hf5_14 => kernel_rfl
      case hr5_14 => kernel_rfl
      case hQ5_14 => exact fun _ _ _ h => h
      case hy5_14 => exact Or.inl ⟨by rfl, fun w hSw => by have q0 := cell_keep p0 hSw; have q1 := cell_keep p1 hSw; have q2 := cell_keep e0 hSw; have q3 := cell_keep e1 hSw; go_simp <;> (try with_reducible rfl)⟩
      simp only [Act.put, List.setIfInBounds_toArray, List.set_cons_zero, List.set_cons_succ]
      refine' wpAnyH_take (i := 6) ?hi6_14 ?hs6_14 ?hf6_14 ?hr6_14 ?hQ6_14 ?hy6_14 (by assumption) ?rest6_14
      case hi6_14 => simp only [List.getElem?_toArray, List.getElem?_cons_succ, List.getElem?_cons_zero] <;> rfl
      case hs6_14 => kernel_rfl
      case hf6_14 => kernel_rfl
      case hr6_14 => kernel_rfl
      case hQ6_14 => exact fun _ _ _ h => h
      case hy6_14 => exact Or.inl ⟨by rfl, fun w hSw => by have q0 := cell_keep p0 hSw; have q1 := cell_keep p1 hSw; have q2 := cell_keep e0 hSw; have q3 := cell_keep e1 hSw; go_simp <;> (try with_reducible rfl)⟩
      simp only [Act.put, List.setIfInBounds_toArray, List.set_cons_zero, List.set_cons_succ]
      refine' wpAnyH_take (i := 7) ?hi7_14 ?hs7_14 ?hf7_14 ?hr7_14 ?hQ7_14 ?hy7_14 (by assumption) ?rest7_14
      case hi7_14 => simp only [List.getElem?_toArray, List.getElem?_cons_succ, List.getElem?_cons_zero] <;> rfl
      case hs7_14 => kernel_rfl
      case hf7_14 => kernel_rfl
      case hr7_14 => kernel_rfl
      case hQ7_14 => exact fun _ _ _ h => h
      case hy7_14 => exact Or.inl ⟨by rfl, fun w hSw => by have q0 := cell_keep p0 hSw; have q1 := cell_keep p1 hSw; have q2 := cell_keep e0 hSw; have q3 := cell_keep e1 hSw; go_simp <;> (try with_reducible rfl)⟩
      simp only [Act.put, List.setIfInBounds_toArray, List.set_cons_zero, List.set_cons_succ]
      refine' wpAnyH_take (i := 8) ?hi8_14 ?hs8_14 ?hf8_14 ?hr8_14 ?hQ8_14 ?hy8_14 (by assumption) ?rest8_14
      case hi8_14 => simp only [List.getElem?_toArray, List.getElem?_cons_succ, List.getElem?_cons_zero] <;> rfl
      case hs8_14 => kernel_rfl
      case hf8_14 => kernel_rfl
      case hr8_14 => kernel_rfl
      case hQ8_14 => exact fun _ _ _ h => h
      case hy8_14 => exact Or.inl ⟨by rfl, fun w hSw => by have q0 := cell_keep p0 hSw; have q1 := cell_keep p1 hSw; have q2 := cell_keep e0 hSw; have q3 := cell_keep e1 hSw; go_simp <;> (try with_reducible rfl)⟩
      simp only [Act.put, List.setIfInBounds_toArray, List.set_cons_zero, List.set_cons_succ]
      refine' wpAnyH_take (i := 9) ?hi9_14 ?hs9_14 ?hf9_14 ?hr9_14 ?hQ9_14 ?hy9_14 (by assumption) ?rest9_14
      case hi9_14 => simp only [List.getElem?_toArray, List.getElem?_cons_succ, List.getElem?_cons_zero] <;> rfl
      case hs9_14 => kernel_rfl
      case hf9_14 => kernel_rfl
      case hr9_14 => kernel_rfl
      case hQ9_14 => exact fun _ _ _ h => h
      case hy9_14 => exact Or.inl ⟨by rfl, fun w hSw => by have q0 := cell_keep p0 hSw; have q1 := cell_keep p1 hSw; have q2 := cell_keep e0 hSw; have q3 := cell_keep e1 hSw; go_simp <;> (try with_reducible rfl)⟩
      simp only [Act.put, List.setIfInBounds_toArray, List.set_cons_zero, List.set_cons_succ]
      refine' wpAnyH_take (i := 10) ?hi10_14 ?hs10_14 ?hf10_14 ?hr10_14 ?hQ10_14 ?hy10_14 (by assumption) ?rest10_14
      case hi10_14 => simp only [List.getElem?_toArray, List.getElem?_cons_succ, List.getElem?_cons_zero] <;> rfl
      case hs10_14 => kernel_rfl
      case hf10_14 => kernel_rfl
      case hr10_14 => kernel_rfl
      case hQ10_14 => exact fun _ _ _ h => h
      case hy10_14 => exact Or.inl ⟨by rfl, fun w hSw => by have q0 := cell_keep p0 hSw; have q1 := cell_keep p1 hSw; have q2 := cell_keep e0 hSw; have q3 := cell_keep e1 hSw; go_simp <;> (try with_reducible rfl)⟩
      simp only [Act.put, List.setIfInBounds_toArray, List.set_cons_zero, List.set_cons_succ]
      refine wpAnyH_ready (rs := [11]) (by kernel_rfl) (by simp) ?_
      refine AllReadyH.cons rfl (fun K hK => ?_) AllReadyH.nil
      go_simp
      with_reducible refine Calls.mono (HWk.out _ (Keeps.trans K3 hHeld) j hlt) ?_
      rintro e w4 ⟨vj, rfl, hvj, kq⟩
      have HVj := Lib.hid hvj
      clear hvj
      go_wp2_with fail
      have hq := Keeps.trans hHeld kq
      refine hK.out _ _ hq (fun hHeld => ?_)
      clear hK K
      refine' wpAnyH_take (i := 12) ?hi12_14 ?hs12_14 ?hf12_14 ?hr12_14 ?hQ12_14 ?hy12_14 (by assumption) ?rest12_14
      case hi12_14 => simp only [List.getElem?_toArray, List.getElem?_cons_succ, List.getElem?_cons_zero] <;> rfl
      case hs12_14 => kernel_rfl
      case hf12_14 => kernel_rfl
      case hr12_14 => kernel_rfl
      case hQ12_14 => exact fun _ _ _ h => h
      case hy12_14 => exact Or.inl ⟨by rfl, fun w hSw => by go_simp <;> (try with_reducible rfl)⟩
      simp only [Act.put, List.setIfInBounds_toArray, List.set_cons_zero, List.set_cons_succ]
      refine' wpAnyH_take (i := 13) ?hi13_14 ?hs13_14 ?hf13_14 ?hr13_14 ?hQ13_14 ?hy13_14 (by assumption) ?rest13_14
      case hi13_14 => simp only [List.getElem?_toArray, List.getElem?_cons_succ, List.getElem?_cons_zero] <;> rfl
      case hs13_14 => kernel_rfl
      case hf13_14 => kernel_rfl
      case hr13_14 => kernel_rfl
      case hQ13_14 => exact fun _ _ _ h => h
      case hy13_14 => exact Or.inl ⟨by rfl, fun w hSw => by go_simp <;> (try with_reducible rfl)⟩
      simp only [Act.put, List.setIfInBounds_toArray, List.set_cons_zero, List.set_cons_succ]
      refine' wpAnyH_take (i := 14) ?hi14_14 ?hs14_14 ?hf14_14 ?hr14_14 ?hQ14_14 ?hy14_14 (by assumption) ?rest14_14
      case hi14_14 => simp only [List.getElem?_toArray, List.getElem?_cons_succ, List.getElem?_cons_zero] <;> rfl
      case hs14_14 => kernel_rfl
      case hf14_14 => kernel_rfl
      case hr14_14 => kernel_rfl
      case hQ14_14 => exact fun _ _ _ h => h
      case hy14_14 => exact Or.inl ⟨by rfl, fun w hSw => by go_simp <;> (try with_reducible rfl)⟩
      simp only [Act.put, List.setIfInBounds_toArray, List.set_cons_zero, List.set_cons_succ]
      refine' wpAnyH_take (i := 15) ?hi15_14 ?hs15_14 ?hf15_14 ?hr15_14 ?hQ15_14 ?hy15_14 (by assumption) ?rest15_14
      case hi15_14 => simp only [List.getElem?_toArray, List.getElem?_cons_succ, List.getElem?_cons_zero] <;> rfl
      case hs15_14 => kernel_rfl
      case hf15_14 => kernel_rfl
      case hr15_14 => kernel_rfl
      case hQ15_14 => exact fun _ _ _ h => h
      case hy15_14 => exact Or.inl ⟨by rfl, fun w hSw => by go_simp <;> (try with_reducible rfl)⟩
      simp only [Act.put, List.setIfInBounds_toArray, List.set_cons_zero, List.set_cons_succ]
      refine' wpAnyH_take (i := 16) ?hi16_14 ?hs16_14 ?hf16_14 ?hr16_14 ?hQ16_14 ?hy16_14 (by assumption) ?rest16_14
      case hi16_14 => simp only [List.getElem?_toArray, List.getElem?_cons_succ, List.getElem?_cons_zero] <;> rfl
      case hs16_14 => kernel_rfl
      case hf16_14 => kernel_rfl
      case hr16_14 => kernel_rfl
      case hQ16_14 => exact fun _ _ _ h => h
      case hy16_14 => exact Or.inl ⟨by rfl, fun w hSw => by go_simp <;> (try with_reducible rfl)⟩
      simp only [Act.put, List.setIfInBounds_toArray, List.set_cons_zero, List.set_cons_succ]
      refine wpAnyH_done (by kernel_rfl) ?_ _
      refine NoPanic.normal ?_
      have HO4 := Lib.hid (HO.out.keep hq)
      have z4 := hq.size
      have k4 := Keeps.trans kj hq
      clear kq e0 e1 p0 p1
      go_wp2_with (at_builtin; refine app_own ?_ (some 108) ?_ (.tmp 106) (.tmp 107) ?_ w2'.heap.size u12 (allG G j) HO4.out ?_ _ vj (G j) HVj.out ?_ (by omega) (by omega) ?_; rfl; rfl; rfl; rfl; rfl; intro v' w5 hown' hgr hbl; have hlo := HO4.out.lt; have K5 : Keeps w2' w5 := Keeps.grown k4 hgr (fun kk e => (hlo kk e).1); have HO5 := Lib.hid hown'; clear hgr hbl hlo hown')
      go_roundw
      case rel => exact ⟨j + 1, by omega, by go_num, by rw [allG_succ]; exact HO5.out, by rw [allG_succ, List.length_append]; omega, K5⟩
      case measure => simp [intOf]; omega
    · obtain rfl : j = 3 := by omega
      obtain ⟨va, vc, hv⟩ := HO.out.form
      have hoi := HO.out
      rw [hv] at hoi
      have hard := hoi.rd.1
      have HAr := Lib.hid hard
      have HMem := Lib.hid (show ∀ k, k < nm → ∃ i, i < (allG G 3).length ∧ (allG G 3).getD i 0 = S k from fun k hk => by
        obtain ⟨i, hi, e⟩ := List.getElem_of_mem (HPl.out k hk)
        exact ⟨i, hi, by rw [List.getD_eq_getElem?_getD, List.getElem?_eq_getElem hi]; exact e⟩)
      obtain ⟨an, han⟩ : ∃ an, (allG G 3).length = an := ⟨_, rfl⟩
      rw [han] at HAr HMem hv hal
      subst hv
      have HPc := Lib.hid (show ∀ w' k, Keeps w3 w' → k < nm → Calls Tryz.prog 40 #[.slice va an vc, .int .i64 (S k)] w' fun e w2 => ∃ p : Nat, e = .returned (.int .i64 p) ∧ Keeps w' w2 from fun w' k kk hk => by
        obtain ⟨p, h1, h2, h3⟩ := first_at _ _ _ (HMem.out k hk)
        exact Calls.mono (place16 va _ an vc (S k) w' (HAr.out.keep kk) (by omega) p h1 h2 h3) (fun e w2 hh => ⟨p, hh⟩))
      clear hoi hard han HO p0 p1 HPl HGl HWk HMem HAr
      go_wp2_with fail
      go_loopw [13, 112] (fun v i wr => ∃ k : Nat, k ≤ nm ∧ i = .int .i64 k ∧ OwnInts wr w3.heap.size v ((List.range k).map Z) ∧ Keeps w3 wr) (fun _ i _ => nm - (intOf i).toNat)
      case atStart => exact ⟨0, by omega, rfl, OwnInts.nil_ _ _, Touch.refl _ _⟩
      case round =>
      obtain ⟨w4, rfl⟩ : ∃ w4 : World, w4 = wr := ⟨_, rfl⟩
      obtain ⟨k, hk, rfl, hown, k4⟩ := hrel
      have HO4 := Lib.hid hown
      have z4 := k4.size
      clear hown
      by_cases hlt : k < nm
      · have hltI : (k : Int) < nm := by omega
        obtain ⟨b1, q1, rfl, y1⟩ := (HSr.out.keep (Keeps.trans K3 k4)).one hlt
        have d1 : w4.cell? ⟨b1, q1 + k, none⟩ = some (.int .i64 (S k)) := y1
        clear y1
        go_wp2_with fail
        refine Calls.mono (HPc.out _ k k4 hlt) ?_
        rintro e w5 ⟨p, rfl, k5⟩
        have hpn : decide ((p : Int) < 0) = false := decide_eq_false (by omega)
        have K5 := Keeps.trans (Keeps.trans K3 k4) k5
        have B5 := (B3.keep k4).keep k5
        have p0 := B5.c 0 _ rfl
        have p1 := B5.c 1 _ rfl
        have d1 := cell_keep d1 k5
        have HO5 := Lib.hid (HO4.out.keep k5)
        have z5 := k5.size
        go_wp2_with fail
        refine wp_region_noPanic ?_
        refine wp_region_held_drew (S := (fun w' => Keeps w5 w')) (by kernel_rfl) (Touch.refl _ w5).drew (fun hHeld => ?_)
        refine' wpAnyH_take (i := 0) ?hi0_15 ?hs0_15 ?hf0_15 ?hr0_15 ?hQ0_15 ?hy0_15 (by assumption) ?rest0_15
        case hi0_15 => simp only [List.getElem?_toArray, List.getElem?_cons_zero] <;> rfl
        case hs0_15 => kernel_rfl
        case hf0_15 => kernel_rfl
        case hr0_15 => kernel_rfl
        case hQ0_15 => exact fun _ _ _ h => h
        case hy0_15 => exact Or.inl ⟨by rfl, fun w hSw => by have q0 := cell_keep p0 hSw; have q1 := cell_keep p1 hSw; have q2 := cell_keep d1 hSw; go_simp <;> (try with_reducible rfl)⟩
        simp only [Act.put, List.setIfInBounds_toArray, List.set_cons_zero, List.set_cons_succ]
        refine' wpAnyH_take (i := 1) ?hi1_15 ?hs1_15 ?hf1_15 ?hr1_15 ?hQ1_15 ?hy1_15 (by assumption) ?rest1_15
        case hi1_15 => simp only [List.getElem?_toArray, List.getElem?_cons_succ, List.getElem?_cons_zero] <;> rfl
        case hs1_15 => kernel_rfl
        case hf1_15 => kernel_rfl
        case hr1_15 => kernel_rfl
        case hQ1_15 => exact fun _ _ _ h => h
        case hy1_15 => exact Or.inl ⟨by rfl, fun w hSw => by have q0 := cell_keep p0 hSw; have q1 := cell_keep p1 hSw; have q2 := cell_keep d1 hSw; go_simp <;> (try with_reducible rfl)⟩
        simp only [Act.put, List.setIfInBounds_toArray, List.set_cons_zero, List.set_cons_succ]
        refine' wpAnyH_take (i := 2) ?hi2_15 ?hs2_15 ?hf2_15 ?hr2_15 ?hQ2_15 ?hy2_15 (by assumption) ?rest2_15
        case hi2_15 => simp only [List.getElem?_toArray, List.getElem?_cons_succ, List.getElem?_cons_zero] <;> rfl
        case hs2_15 => kernel_rfl
        case hf2_15 => kernel_rfl
        case hr2_15 => kernel_rfl
        case hQ2_15 => exact fun _ _ _ h => h
        case hy2_15 => exact Or.inl ⟨by rfl, fun w hSw => by have q0 := cell_keep p0 hSw; have q1 := cell_keep p1 hSw; have q2 := cell_keep d1 hSw; go_simp <;> (try with_reducible rfl)⟩
        simp only [Act.put, List.setIfInBounds_toArray, List.set_cons_zero, List.set_cons_succ]
        refine' wpAnyH_take (i := 3) ?hi3_15 ?hs3_15 ?hf3_15 ?hr3_15 ?hQ3_15 ?hy3_15 (by assumption) ?rest3_15
        case hi3_15 => simp only [List.getElem?_toArray, List.getElem?_cons_succ, List.getElem?_cons_zero] <;> rfl
        case hs3_15 => kernel_rfl
        case hf3_15 => kernel_rfl
        case hr3_15 => kernel_rfl
        case hQ3_15 => exact fun _ _ _ h => h
        case hy3_15 => exact Or.inl ⟨by rfl, fun w hSw => by have q0 := cell_keep p0 hSw; have q1 := cell_keep p1 hSw; have q2 := cell_keep d1 hSw; go_simp <;> (try with_reducible rfl)⟩
        simp only [Act.put, List.setIfInBounds_toArray, List.set_cons_zero, List.set_cons_succ]
        refine' wpAnyH_take (i := 4) ?hi4_15 ?hs4_15 ?hf4_15 ?hr4_15 ?hQ4_15 ?hy4_15 (by assumption) ?rest4_15
        case hi4_15 => simp only [List.getElem?_toArray, List.getElem?_cons_succ, List.getElem?_cons_zero] <;> rfl
        case hs4_15 => kernel_rfl
        case hf4_15 => kernel_rfl
        case hr4_15 => kernel_rfl
        case hQ4_15 => exact fun _ _ _ h => h
        case hy4_15 => exact Or.inl ⟨by rfl, fun w hSw => by have q0 := cell_keep p0 hSw; have q1 := cell_keep p1 hSw; have q2 := cell_keep d1 hSw; go_simp <;> (try with_reducible rfl)⟩
        simp only [Act.put, List.setIfInBounds_toArray, List.set_cons_zero, List.set_cons_succ]
        refine wpAnyH_ready (rs := [5]) (by kernel_rfl) (by simp) ?_
        refine AllReadyH.cons rfl (fun K hK => ?_) AllReadyH.nil
        go_simp
        with_reducible refine Calls.mono (HSz.out _ (Keeps.trans K5 hHeld) k hlt) ?_
        rintro e w6 ⟨rfl, kq⟩
        go_wp2_with fail
        have hq := Keeps.trans hHeld kq
        refine hK.out _ _ hq (fun hHeld => ?_)
        clear hK K
        refine' wpAnyH_take (i := 6) ?hi6_15 ?hs6_15 ?hf6_15 ?hr6_15 ?hQ6_15 ?hy6_15 (by assumption) ?rest6_15
        case hi6_15 => simp only [List.getElem?_toArray, List.getElem?_cons_succ, List.getElem?_cons_zero] <;> rfl
        case hs6_15 => kernel_rfl
        case hf6_15 => kernel_rfl
        case hr6_15 => kernel_rfl
        case hQ6_15 => exact fun _ _ _ h => h
        case hy6_15 => exact Or.inl ⟨by rfl, fun w hSw => by go_simp <;> (try with_reducible rfl)⟩
        simp only [Act.put, List.setIfInBounds_toArray, List.set_cons_zero, List.set_cons_succ]
        refine' wpAnyH_take (i := 7) ?hi7_15 ?hs7_15 ?hf7_15 ?hr7_15 ?hQ7_15 ?hy7_15 (by assumption) ?rest7_15
        case hi7_15 => simp only [List.getElem?_toArray, List.getElem?_cons_succ, List.getElem?_cons_zero] <;> rfl
        case hs7_15 => kernel_rfl
        case hf7_15 => kernel_rfl
        case hr7_15 => kernel_rfl
        case hQ7_15 => exact fun _ _ _ h => h
        case hy7_15 => exact Or.inl ⟨by rfl, fun w hSw => by go_simp <;> (try with_reducible rfl)⟩
        simp only [Act.put, List.setIfInBounds_toArray, List.set_cons_zero, List.set_cons_succ]
        refine' wpAnyH_take (i := 8) ?hi8_15 ?hs8_15 ?hf8_15 ?hr8_15 ?hQ8_15 ?hy8_15 (by assumption) ?rest8_15
        case hi8_15 => simp only [List.getElem?_toArray, List.getElem?_cons_succ, List.getElem?_cons_zero] <;> rfl
        case hs8_15 => kernel_rfl
        case hf8_15 => kernel_rfl
        case hr8_15 => kernel_rfl
        case hQ8_15 => exact fun _ _ _ h => h
        case hy8_15 => exact Or.inl ⟨by rfl, fun w hSw => by go_simp <;> (try with_reducible rfl)⟩
        simp only [Act.put, List.setIfInBounds_toArray, List.set_cons_zero, List.set_cons_succ]
        refine' wpAnyH_take (i := 9) ?hi9_15 ?hs9_15 ?hf9_15 ?hr9_15 ?hQ9_15 ?hy9_15 (by assumption) ?rest9_15
        case hi9_15 => simp only [List.getElem?_toArray, List.getElem?_cons_succ, List.getElem?_cons_zero] <;> rfl
        case hs9_15 => kernel_rfl
        case hf9_15 => kernel_rfl
        case hr9_15 => kernel_rfl
        case hQ9_15 => exact fun _ _ _ h => h
        case hy9_15 => exact Or.inl ⟨by rfl, fun w hSw => by go_simp <;> (try with_reducible rfl)⟩
        simp only [Act.put, List.setIfInBounds_toArray, List.set_cons_zero, List.set_cons_succ]
        refine' wpAnyH_take (i := 10) ?hi10_15 ?hs10_15 ?hf10_15 ?hr10_15 ?hQ10_15 ?hy10_15 (by assumption) ?rest10_15
        case hi10_15 => simp only [List.getElem?_toArray, List.getElem?_cons_succ, List.getElem?_cons_zero] <;> rfl
        case hs10_15 => kernel_rfl
        case hf10_15 => kernel_rfl
        case hr10_15 => kernel_rfl
        case hQ10_15 => exact fun _ _ _ h => h
        case hy10_15 => exact Or.inl ⟨by rfl, fun w hSw => by go_simp <;> (try with_reducible rfl)⟩
        simp only [Act.put, List.setIfInBounds_toArray, List.set_cons_zero, List.set_cons_succ]
        refine' wpAnyH_take (i := 11) ?hi11_15 ?hs11_15 ?hf11_15 ?hr11_15 ?hQ11_15 ?hy11_15 (by assumption) ?rest11_15
        case hi11_15 => simp only [List.getElem?_toArray, List.getElem?_cons_succ, List.getElem?_cons_zero] <;> rfl
        case hs11_15 => kernel_rfl
        case hf11_15 => kernel_rfl
        case hr11_15 => kernel_rfl
        case hQ11_15 => exact fun _ _ _ h => h
        case hy11_15 => exact Or.inl ⟨by rfl, fun w hSw => by go_simp <;> (try with_reducible rfl)⟩
        simp only [Act.put, List.setIfInBounds_toArray, List.set_cons_zero, List.set_cons_succ]
        refine' wpAnyH_take (i := 12) ?hi12_15 ?hs12_15 ?hf12_15 ?hr12_15 ?hQ12_15 ?hy12_15 (by assumption) ?rest12_15
        case hi12_15 => simp only [List.getElem?_toArray, List.getElem?_cons_succ, List.getElem?_cons_zero] <;> rfl
        case hs12_15 => kernel_rfl
        case hf12_15 => kernel_rfl
        case hr12_15 => kernel_rfl
        case hQ12_15 => exact fun _ _ _ h => h
        case hy12_15 => exact Or.inl ⟨by rfl, fun w hSw => by go_simp <;> (try with_reducible rfl)⟩
        simp only [Act.put, List.setIfInBounds_toArray, List.set_cons_zero, List.set_cons_succ]
        refine wpAnyH_done (by kernel_rfl) ?_ _
        refine NoPanic.normal ?_
        have HO6 := Lib.hid (HO5.out.keep hq)
        have z6 := hq.size
        have k6 := Keeps.trans (Keeps.trans k4 k5) hq
        clear kq d1 p0 p1
        go_wp2_with (at_builtin; refine app_int ?_ (.tmp 132) (.tmp 134) ?_ w3.heap.size u13 ((List.range k).map Z) (HO6.out.alloc _) ?_ w6.heap.size (Z k) ?_ (cell_new _ _ _ _ rfl) (by simp; omega) (by simp; omega) ?_; rfl; rfl; rfl; rfl; intro v' w7 hown' hgr hbl; have hlo := HO6.out.lt; have K7 : Keeps w3 w7 := Keeps.grown (Touch.alloc k6 _) hgr (fun kk e => (hlo kk e).1); have HO7 := Lib.hid hown'; clear hgr hbl hlo hown')
        refine ⟨?_, ?measure⟩
        (repeat apply Exists.intro)
        (repeat apply Exists.intro)
        (repeat apply Exists.intro)
        refine ⟨?rel, rfl⟩
        case rel => exact ⟨k + 1, by omega, by go_num, by rw [List.range_succ, List.map_append]; exact HO7.out, K7⟩
        case measure => simp [intOf]; omega
      · obtain rfl : nm = k := by omega
        obtain ⟨za, zc, hz⟩ := HO4.out.form
        have hoi := HO4.out
        rw [hz] at hoi
        have hlenZ : ((List.range nm).map Z).length = nm := by simp
        have hzr2 := hoi.rd.1
        have hzlt := hoi.lt
        rw [hlenZ] at hzr2 hz
        have hzr3 : Rd w4 za nm (intF .i64 Z) := hzr2.congr (fun j hj => by show Value.int _ (((List.range nm).map Z).getD j 0) = Value.int _ (Z j); rw [map_range_getD Z nm j hj])
        subst hz
        have HZr := Lib.hid hzr3
        have HZb := Lib.hid (show ∀ b off, za = some ⟨b, off, none⟩ → w3.heap.size ≤ b ∧ b < w4.heap.size from fun b off e => by subst e; exact hzlt b rfl)
        have K4 := Keeps.trans K3 k4
        clear hoi hlenZ hzr2 hzr3 hzlt HO4 HPc HSz
        go_wp2_with fail
        refine Calls.mono (HPlan.out _ _ _ K4 HZr.out) ?_
        clear HPlan
        rintro e w5 ⟨v21, ad, cp, rfl, hto, hnow, k5⟩
        have K5 := Keeps.trans K4 k5
        have z5 := k5.size
        obtain ⟨ta, tc, hv21⟩ := hto.form
        subst hv21
        have htr := hto.rd.1
        have htl := hto.lt
        rw [HPo.out] at htr
        have HTr := Lib.hid (htr.congr (g := intF .i64 P) (fun j _ => by show Value.int _ (OUT.getD j 0) = Value.int _ (P j); rw [HPe.out j]))
        have HTb := Lib.hid (show ∀ b off, ta = some ⟨b, off, none⟩ → w4.heap.size ≤ b ∧ b < w5.heap.size from fun b off e => by subst e; exact htl b rfl)
        have HNow := Lib.hid hnow
        rw [HPo.out]
        have B5 := (B3.keep k4).keep k5
        have p0 := B5.c 0 _ rfl
        have pt := (HR.out.keep K5).ptr
        have hbx5 := B5.lt
        have hpl5 : pa < w5.heap.size := by have := K5.size; omega
        have hWr := ((HB.out.keep K5).rd.keep ((Touch.refl (fun _ => False) w5).alloc (.cells #[] 3)))
        have HWr := Lib.hid (show Rd (w5.alloc (.cells #[] 3)) (some ⟨wb, 0, none⟩) (500 * 1) (intF .i64 f) from by rw [Nat.mul_one]; exact hWr)
        clear hto hnow htr htl hWr
        go_upto_region 28 with (at_builtin; refine app_rd ?_ (.tmp 144) (.tmp 149) (T := 34) (E := 3) ?_ Tryz.underlying34 info_int rfl (by decide) w5.heap.size _ 0 [] ?_ (own_new w5 _ 1 _ rfl) ⟨wb, 0, none⟩ 500 wcp ?_ (intF .i64 f) HWr.out (fun j _ => rfl) (by omega) (by decide) (by simp) ?_; rfl; rfl; rfl; rfl; intro v24 w6 hown hgr hbl; have HOw := Lib.hid hown; have k6 : Keeps w5 w6 := Keeps.grown ((Touch.refl _ w5).alloc (.cells #[] 3)) hgr (fun kk e => by have e2 : w5.heap.size = kk := Option.some.inj e; omega); clear hown hgr hbl)
        have hIB : ∃ ab acp, v24 = .slice (some ⟨ab, 0, none⟩) 500 acp ∧ w5.heap.size ≤ ab ∧ ab < w6.heap.size ∧ IB w6 ab acp 500 f := by
          have h1 : OwnInts w6 w5.heap.size v24 ((List.range 500).map f) := by
            have hown := HOw.out
            simp only [Nat.zero_add, Nat.mul_one, List.nil_append] at hown
            unfold OwnInts
            have e : ints ((List.range 500).map f) = (List.range 500).map (intF .i64 f) := by simp [ints, intF, Function.comp_def]
            rw [e, List.length_map, List.length_range]
            exact hown
          rcases h1.cases_ with ⟨_, h⟩ | ⟨g, cap, h, _⟩
          · exact absurd h (by simp)
          · have hl : ((List.range 500).map f).length = 500 := by simp
            rw [hl] at h
            subst h
            obtain ⟨_, _, h3, h4, h5⟩ := h1.ib
            exact ⟨g, cap, rfl, h3, h4, h5.congr (fun j hj => (map_range_getD f 500 j hj).symm)⟩
        obtain ⟨ab, acp, rfl, hab0, hab1, hIB⟩ := hIB
        have HIB6 := Lib.hid hIB
        have K6 := Keeps.trans K5 k6
        have z6 := k6.size
        have B6 := B5.keep k6
        clear hIB HOw HWr p0 pt
        go_upto_region 29 with fail
        refine named_code (fun w7 hW7 => ?_)
        have k7 : Keeps w6 w7 := by rw [hW7]; exact (Touch.refl _ w6).alloc _
        have z7 : w7.heap.size = w6.heap.size + 1 := by rw [hW7]; simp
        have HIO := Lib.hid (show IB w7 w6.heap.size rr rr (fun _ => 0) from by
          rw [hW7]
          refine ⟨⟨fun _ => .int .i64 0, ?_, fun j hj => rfl⟩, Nat.le_refl _⟩
          unfold Blk
          have e : madeCells #[Value.int .i64 0] rr = Array.ofFn (n := rr) fun _ => Value.int .i64 0 := by
            apply Array.ext
            · simp [madeCells]
            · intro i h1 h2
              simp [madeCells, Nat.mod_one]
          rw [heap_alloc_new, e])
        obtain ⟨ob, hob⟩ : ∃ ob, w6.heap.size = ob := ⟨_, rfl⟩
        rw [hob] at HIO
        have K7 := Keeps.trans K6 k7
        have hob1 : ob ≤ w6.heap.size ∧ w6.heap.size ≤ ob := by omega
        clear hW7
        rw [hob]
        clear hob
        -- the roots
        have HI6 := Lib.hid (HIB6.out.keep k7)
        have B7 := B6.keep k7
        have HT7 := Lib.hid (HTr.out.keep (Keeps.trans k6 k7))
        have HZ7 := Lib.hid (HZr.out.keep (Keeps.trans k5 (Keeps.trans k6 k7)))
        have HN7 := Lib.hid (HNow.out.rd.keep (Keeps.trans k6 k7))
        have hobl : ob < w7.heap.size := by omega
        have hNb := HNow.out
        have HNb := Lib.hid (show ∀ b off, ad = some ⟨b, off, none⟩ → w4.heap.size ≤ b ∧ b < w5.heap.size from fun b off e => by
          obtain ⟨g, cap', ff, e2, q1, q2, _⟩ := hNb (by omega)
          rw [e] at e2
          simp only [Option.some.injEq, Addr.mk.injEq, and_true] at e2
          omega)
        clear hNb B5 B6
        have hab7 : ab ≠ ob ∧ ab < w7.heap.size := by omega
        go_wp2_with fail
        go_loopw [156] (fun i wr => ∃ k : Nat, k ≤ rr ∧ i = .int .i64 k ∧ IB wr ob rr rr (fun j => if j < k then Mv (Rt j) else 0) ∧ Only ob w7 wr) (fun i _ => rr - (intOf i).toNat)
        case atStart => exact ⟨0, by omega, rfl, HIO.out.congr (fun j hj => by rw [if_neg (by omega)]), Only.refl _ _⟩
        case round =>
        obtain ⟨w8, rfl⟩ : ∃ w8 : World, w8 = wr := ⟨_, rfl⟩
        obtain ⟨k, hk, rfl, hio, o8⟩ := hrel
        have HIo := Lib.hid hio
        have z8 := o8.size
        have K8 : Keeps w w8 := K7.new o8 (by omega)
        clear hio
        by_cases hlt : k < rr
        · have hltI : (k : Int) < rr := by omega
          obtain ⟨b1, q1, rfl, y1⟩ := (HRr.out.keep K8).one hlt
          have d1 : w8.cell? ⟨b1, q1 + k, none⟩ = some (.int .i64 (Rt k)) := y1
          have hG := Lib.hid (HGo.out w8 ta nm tc (Rt k) (HSr.out.keep K8) (HT7.out.keepS o8 (fun b off e h => by have := HTb.out b off e; omega)) rfl (HRo.out k hlt))
          obtain ⟨x, hx⟩ : ∃ x, Mv (Rt k) = x := ⟨_, rfl⟩
          rw [hx] at hG
          have HX := Lib.hid hx
          clear y1 hx
          go_wp2_with fail
          refine Calls.mono hG.out ?_
          clear hG
          rintro e w9 ⟨rfl, k9⟩
          have HIo9 := Lib.hid (HIo.out.keep k9)
          have z9 := k9.size
          have c9 : w9.cell? ⟨ob, k, none⟩ = some (.int .i64 (if k < k then Mv (Rt k) else 0)) := HIo9.out.c hlt
          have f9 := HIo9.out.fz k
          go_wp2_with fail
          have o10 : Only ob w7 (w9.setCell ⟨ob, k, none⟩ (.int .i64 x)) := Touch.set (Touch.keep o8 k9) k _
          have HI10 := Lib.hid (show IB (w9.setCell ⟨ob, k, none⟩ (.int .i64 x)) ob rr rr (fun j => if j < k + 1 then Mv (Rt j) else 0) from (HIo9.out.set (j := k) x).congr (fun j hj => by
            unfold putF
            by_cases e : j = k
            · subst e; rw [if_pos rfl, if_pos (by omega), HX.out]
            · rw [if_neg e]
              show (if j < k + 1 then Mv (Rt j) else 0) = (if j < k then Mv (Rt j) else 0)
              by_cases e2 : j < k
              · rw [if_pos e2, if_pos (by omega)]
              · rw [if_neg e2, if_neg (by omega)]))
          clear c9 f9
          go_roundw
          case rel => exact ⟨k + 1, by omega, by go_num, HI10.out, o10⟩
          case measure => simp [intOf]; omega
        · obtain rfl : rr = k := by omega
          have HOut := Lib.hid (show IB w8 ob rr rr (fun j => Mv (Rt j)) from HIo.out.congr (fun j hj => by rw [if_pos hj]))
          have HI8 := Lib.hid (HI6.out.touch o8 (show ¬ ab = ob from hab7.1))
          have B8 := B7.touch o8 (show ¬ w.heap.size = ob by omega)
          have HT8 := Lib.hid (HT7.out.keepS o8 (fun b off e h => by have := HTb.out b off e; omega))
          have HZ8 := Lib.hid (HZ7.out.keepS o8 (fun b off e h => by have := HZb.out b off e; omega))
          have HN8 := Lib.hid (HN7.out.keepS o8 (fun b off e h => by have := HNb.out b off e; omega))
          have hobl8 : ob < w8.heap.size ∧ ab < w8.heap.size := by omega
          clear B7 HIo HI6 HT7 HZ7 HN7
          go_wp2_with fail
          go_loopw [178] (fun i wr => ∃ k : Nat, k ≤ nm ∧ i = .int .i64 k ∧ IB wr ab acp 500 (wasG f adj k) ∧ Only ab w8 wr) (fun i _ => nm - (intOf i).toNat)
          case atStart => exact ⟨0, by omega, rfl, HI8.out, Only.refl _ _⟩
          case round =>
          obtain ⟨w9, rfl⟩ : ∃ w9 : World, w9 = wr := ⟨_, rfl⟩
          obtain ⟨k, hk, rfl, hib, o9⟩ := hrel
          have HIb := Lib.hid hib
          have z9 := o9.size
          have K9 : Keeps w w9 := K8.new o9 (by omega)
          have B9 := B8.touch o9 (show ¬ w.heap.size = ab by omega)
          clear hib
          by_cases hlt : k < nm
          · have hltI : (k : Int) < nm := by omega
            have p0 := B9.c 0 _ rfl
            have p1 := B9.c 1 _ rfl
            obtain ⟨b1, q1, rfl, y1⟩ := (HSr.out.keep K9).one hlt
            have hz1 := (HZk.out k hlt)
            obtain ⟨sk, hsk⟩ : ∃ sk : Nat, S k = sk := ⟨(S k).toNat, by omega⟩
            have HSk := Lib.hid hsk
            have d1 : w9.cell? ⟨b1, q1 + k, none⟩ = some (.int .i64 (sk : Int)) := by rw [← hsk]; exact y1
            have HShk := Lib.hid (show ∀ w', Keeps w w' → Calls Tryz.prog 44 #[.agg #[.pointer (some ⟨pa, 0, none⟩), .slice Ac m cc], .int .i64 (sk : Int)] w' fun e w2 => e = .returned (.tuple #[.int .i64 (Rf k), .int .i64 (Df k), .int .i64 0]) ∧ Keeps w' w2 from fun w' kk => by rw [← hsk]; exact HSh.out w' kk k hlt)
            rw [hsk] at hz1
            clear y1 hsk
            have hsbk := HSb.out b1 q1 rfl
            go_wp2_with fail
            refine wp_region_noPanic ?_
            refine wp_region_held_drew (S := (fun w' => Keeps w9 w')) (by kernel_rfl) (Touch.refl _ w9).drew (fun hHeld => ?_)
            refine' wpAnyH_take (i := 0) ?hi0_1 ?hs0_1 ?hf0_1 ?hr0_1 ?hQ0_1 ?hy0_1 (by assumption) ?rest0_1
            case hi0_1 => simp only [List.getElem?_toArray, List.getElem?_cons_zero] <;> rfl
            case hs0_1 => kernel_rfl
            case hf0_1 => kernel_rfl
            case hr0_1 => kernel_rfl
            case hQ0_1 => exact fun _ _ _ h => h
            case hy0_1 => exact Or.inl ⟨by rfl, fun w hSw => by have q0 := cell_keep p0 hSw; have q1 := cell_keep p1 hSw; have q2 := cell_keep d1 hSw; go_simp <;> (try with_reducible rfl)⟩
            simp only [Act.put, List.setIfInBounds_toArray, List.set_cons_zero, List.set_cons_succ]
            refine' wpAnyH_take (i := 1) ?hi1_1 ?hs1_1 ?hf1_1 ?hr1_1 ?hQ1_1 ?hy1_1 (by assumption) ?rest1_1
            case hi1_1 => simp only [List.getElem?_toArray, List.getElem?_cons_succ, List.getElem?_cons_zero] <;> rfl
            case hs1_1 => kernel_rfl
            case hf1_1 => kernel_rfl
            case hr1_1 => kernel_rfl
            case hQ1_1 => exact fun _ _ _ h => h
            case hy1_1 => exact Or.inl ⟨by rfl, fun w hSw => by have q0 := cell_keep p0 hSw; have q1 := cell_keep p1 hSw; have q2 := cell_keep d1 hSw; go_simp <;> (try with_reducible rfl)⟩
            simp only [Act.put, List.setIfInBounds_toArray, List.set_cons_zero, List.set_cons_succ]
            refine' wpAnyH_take (i := 2) ?hi2_1 ?hs2_1 ?hf2_1 ?hr2_1 ?hQ2_1 ?hy2_1 (by assumption) ?rest2_1
            case hi2_1 => simp only [List.getElem?_toArray, List.getElem?_cons_succ, List.getElem?_cons_zero] <;> rfl
            case hs2_1 => kernel_rfl
            case hf2_1 => kernel_rfl
            case hr2_1 => kernel_rfl
            case hQ2_1 => exact fun _ _ _ h => h
            case hy2_1 => exact Or.inl ⟨by rfl, fun w hSw => by have q0 := cell_keep p0 hSw; have q1 := cell_keep p1 hSw; have q2 := cell_keep d1 hSw; go_simp <;> (try with_reducible rfl)⟩
            simp only [Act.put, List.setIfInBounds_toArray, List.set_cons_zero, List.set_cons_succ]
            refine' wpAnyH_take (i := 3) ?hi3_1 ?hs3_1 ?hf3_1 ?hr3_1 ?hQ3_1 ?hy3_1 (by assumption) ?rest3_1
            case hi3_1 => simp only [List.getElem?_toArray, List.getElem?_cons_succ, List.getElem?_cons_zero] <;> rfl
            case hs3_1 => kernel_rfl
            case hf3_1 => kernel_rfl
            case hr3_1 => kernel_rfl
            case hQ3_1 => exact fun _ _ _ h => h
            case hy3_1 => exact Or.inl ⟨by rfl, fun w hSw => by have q0 := cell_keep p0 hSw; have q1 := cell_keep p1 hSw; have q2 := cell_keep d1 hSw; go_simp <;> (try with_reducible rfl)⟩
            simp only [Act.put, List.setIfInBounds_toArray, List.set_cons_zero, List.set_cons_succ]
            refine' wpAnyH_take (i := 4) ?hi4_1 ?hs4_1 ?hf4_1 ?hr4_1 ?hQ4_1 ?hy4_1 (by assumption) ?rest4_1
            case hi4_1 => simp only [List.getElem?_toArray, List.getElem?_cons_succ, List.getElem?_cons_zero] <;> rfl
            case hs4_1 => kernel_rfl
            case hf4_1 => kernel_rfl
            case hr4_1 => kernel_rfl
            case hQ4_1 => exact fun _ _ _ h => h
            case hy4_1 => exact Or.inl ⟨by rfl, fun w hSw => by have q0 := cell_keep p0 hSw; have q1 := cell_keep p1 hSw; have q2 := cell_keep d1 hSw; go_simp <;> (try with_reducible rfl)⟩
            simp only [Act.put, List.setIfInBounds_toArray, List.set_cons_zero, List.set_cons_succ]
            refine wpAnyH_ready (rs := [5]) (by kernel_rfl) (by simp) ?_
            refine AllReadyH.cons rfl (fun K hK => ?_) AllReadyH.nil
            go_simp
            with_reducible refine Calls.mono (HShk.out _ (Keeps.trans K9 hHeld)) ?_
            rintro e w10 ⟨rfl, kq⟩
            go_wp2_with fail
            have hq := Keeps.trans hHeld kq
            refine hK.out _ _ hq (fun hHeld => ?_)
            clear hK K
            refine' wpAnyH_take (i := 6) ?hi6_1 ?hs6_1 ?hf6_1 ?hr6_1 ?hQ6_1 ?hy6_1 (by assumption) ?rest6_1
            case hi6_1 => simp only [List.getElem?_toArray, List.getElem?_cons_succ, List.getElem?_cons_zero] <;> rfl
            case hs6_1 => kernel_rfl
            case hf6_1 => kernel_rfl
            case hr6_1 => kernel_rfl
            case hQ6_1 => exact fun _ _ _ h => h
            case hy6_1 => exact Or.inl ⟨by rfl, fun w hSw => by go_simp <;> (try with_reducible rfl)⟩
            simp only [Act.put, List.setIfInBounds_toArray, List.set_cons_zero, List.set_cons_succ]
            refine' wpAnyH_take (i := 7) ?hi7_1 ?hs7_1 ?hf7_1 ?hr7_1 ?hQ7_1 ?hy7_1 (by assumption) ?rest7_1
            case hi7_1 => simp only [List.getElem?_toArray, List.getElem?_cons_succ, List.getElem?_cons_zero] <;> rfl
            case hs7_1 => kernel_rfl
            case hf7_1 => kernel_rfl
            case hr7_1 => kernel_rfl
            case hQ7_1 => exact fun _ _ _ h => h
            case hy7_1 => exact Or.inl ⟨by rfl, fun w hSw => by go_simp <;> (try with_reducible rfl)⟩
            simp only [Act.put, List.setIfInBounds_toArray, List.set_cons_zero, List.set_cons_succ]
            refine' wpAnyH_take (i := 8) ?hi8_1 ?hs8_1 ?hf8_1 ?hr8_1 ?hQ8_1 ?hy8_1 (by assumption) ?rest8_1
            case hi8_1 => simp only [List.getElem?_toArray, List.getElem?_cons_succ, List.getElem?_cons_zero] <;> rfl
            case hs8_1 => kernel_rfl
            case hf8_1 => kernel_rfl
            case hr8_1 => kernel_rfl
            case hQ8_1 => exact fun _ _ _ h => h
            case hy8_1 => exact Or.inl ⟨by rfl, fun w hSw => by go_simp <;> (try with_reducible rfl)⟩
            simp only [Act.put, List.setIfInBounds_toArray, List.set_cons_zero, List.set_cons_succ]
            refine' wpAnyH_take (i := 9) ?hi9_1 ?hs9_1 ?hf9_1 ?hr9_1 ?hQ9_1 ?hy9_1 (by assumption) ?rest9_1
            case hi9_1 => simp only [List.getElem?_toArray, List.getElem?_cons_succ, List.getElem?_cons_zero] <;> rfl
            case hs9_1 => kernel_rfl
            case hf9_1 => kernel_rfl
            case hr9_1 => kernel_rfl
            case hQ9_1 => exact fun _ _ _ h => h
            case hy9_1 => exact Or.inl ⟨by rfl, fun w hSw => by go_simp <;> (try with_reducible rfl)⟩
            simp only [Act.put, List.setIfInBounds_toArray, List.set_cons_zero, List.set_cons_succ]
            refine' wpAnyH_take (i := 10) ?hi10_1 ?hs10_1 ?hf10_1 ?hr10_1 ?hQ10_1 ?hy10_1 (by assumption) ?rest10_1
            case hi10_1 => simp only [List.getElem?_toArray, List.getElem?_cons_succ, List.getElem?_cons_zero] <;> rfl
            case hs10_1 => kernel_rfl
            case hf10_1 => kernel_rfl
            case hr10_1 => kernel_rfl
            case hQ10_1 => exact fun _ _ _ h => h
            case hy10_1 => exact Or.inl ⟨by rfl, fun w hSw => by go_simp <;> (try with_reducible rfl)⟩
            simp only [Act.put, List.setIfInBounds_toArray, List.set_cons_zero, List.set_cons_succ]
            refine' wpAnyH_take (i := 11) ?hi11_1 ?hs11_1 ?hf11_1 ?hr11_1 ?hQ11_1 ?hy11_1 (by assumption) ?rest11_1
            case hi11_1 => simp only [List.getElem?_toArray, List.getElem?_cons_succ, List.getElem?_cons_zero] <;> rfl
            case hs11_1 => kernel_rfl
            case hf11_1 => kernel_rfl
            case hr11_1 => kernel_rfl
            case hQ11_1 => exact fun _ _ _ h => h
            case hy11_1 => exact Or.inl ⟨by rfl, fun w hSw => by go_simp <;> (try with_reducible rfl)⟩
            simp only [Act.put, List.setIfInBounds_toArray, List.set_cons_zero, List.set_cons_succ]
            refine' wpAnyH_take (i := 12) ?hi12_1 ?hs12_1 ?hf12_1 ?hr12_1 ?hQ12_1 ?hy12_1 (by assumption) ?rest12_1
            case hi12_1 => simp only [List.getElem?_toArray, List.getElem?_cons_succ, List.getElem?_cons_zero] <;> rfl
            case hs12_1 => kernel_rfl
            case hf12_1 => kernel_rfl
            case hr12_1 => kernel_rfl
            case hQ12_1 => exact fun _ _ _ h => h
            case hy12_1 => exact Or.inl ⟨by rfl, fun w hSw => by go_simp <;> (try with_reducible rfl)⟩
            simp only [Act.put, List.setIfInBounds_toArray, List.set_cons_zero, List.set_cons_succ]
            refine wpAnyH_done (by kernel_rfl) ?_ _
            refine NoPanic.normal ?_
            have K10 := Keeps.trans K9 hq
            have z10 := hq.size
            have HRk := HRb.out k hlt
            rw [HSk.out] at HRk
            obtain ⟨rk, hrk⟩ : ∃ rk : Nat, Rf k = rk := ⟨(Rf k).toNat, by omega⟩
            have HRkE := Lib.hid hrk
            rw [hrk] at HRk ⊢
            clear hrk
            have HGk := Lib.hid (show ∀ w' r, Keeps w9 w' ∨ Only ab w9 w' → r < rk → Calls Tryz.prog 43 #[.slice (some ⟨b1, q1, none⟩) nm sc, .slice ta nm tc, .int .i64 (f (sk + 2 + r))] w' fun e w2 => e = .returned (.tuple #[.int .i64 (Mv (f (sk + 2 + r))), .bool true]) ∧ Keeps w' w2 from fun w' r hh hr => by
              have oo : Only ab w9 w' := hh.elim (fun h => Touch.only h) (fun h => h)
              have h1 := HRf.out k hlt r (by rw [HRkE.out]; omega)
              rw [HSk.out, show ((sk : Int) + 2 + r).toNat = sk + 2 + r by omega] at h1
              exact HGo.out w' ta nm tc _ ((HSr.out.keep K9).keepS oo (fun b off e h => by simp only [Option.some.injEq, Addr.mk.injEq, and_true] at e; obtain ⟨rfl, _⟩ := e; omega)) ((HT8.out.keepS o9 (fun b off e h => by have := HTb.out b off e; omega)).keepS oo (fun b off e h => by have := HTb.out b off e; omega)) rfl h1)
            have HHk2 := Lib.hid (show ∀ w', Only ab w9 w' → Calls Tryz.prog 45 #[.agg #[.pointer (some ⟨pa, 0, none⟩), .slice Ac m cc], .int .i64 (sk : Int)] w' fun e w2 => e = .returned (.tuple #[hdV (Hf k), .int .i64 0]) ∧ Keeps w' w2 from fun w' oo => by rw [← HSk.out]; exact HHd.out w' (K9.new oo (by omega)) k hlt)
            have HIb10 := Lib.hid (HIb.out.keep hq)
            have hA := HAd.out
            obtain ⟨g, hg⟩ : ∃ g, wasG f adj k = g := ⟨_, rfl⟩
            have HAe := Lib.hid (HAk.out k hlt (wasG f adj k))
            have HG1 := Lib.hid (show wasG f adj (k + 1) = adj k (wasG f adj k) from rfl)
            have HWs := Lib.hid (show ∀ r, r < rk → wasG f adj k (sk + 2 + r) = f (sk + 2 + r) from fun r hr => HW0.out k hlt _ (by rw [HSk.out]; omega) (by rw [HSk.out]; omega))
            have HA0 := Lib.hid (hA.1 (wasG f adj k) (S k))
            have HA1 := Lib.hid (fun r => hA.2.1 (wasG f adj k) (S k) r (by rw [HSk.out]; omega))
            have HA2 := Lib.hid (fun r => hA.2.2 (wasG f adj k) (S k) r (by rw [HSk.out]; omega))
            rw [hg] at HAe HG1 HWs HA0 HA1 HA2 HIb10
            rw [HSk.out, HRkE.out, Int.toNat_natCast, Int.toNat_natCast] at HAe
            rw [HSk.out] at HA0 HA1 HA2
            obtain ⟨AF, hAF⟩ : ∃ AF : Nat → (Nat → Int), (fun r => Ad g (sk : Int) r) = AF := ⟨_, rfl⟩
            have HF0 := Lib.hid (show AF 0 = g from by rw [← hAF]; exact HA0.out)
            have HFr := Lib.hid (show ∀ r, r < rk → AF r (sk + 2 + r) = f (sk + 2 + r) ∧ putF (AF r) (sk + 2 + r) (Mv (f (sk + 2 + r))) = AF (r + 1) from fun r hr => by
              have e : (refAt (sk : Int) r).toNat = sk + 2 + r := by unfold refAt; omega
              have h1 := HA1.out r
              have h2 := HA2.out r
              rw [e, HWs.out r hr] at h1 h2
              rw [← hAF]
              exact ⟨h1, h2⟩)
            have HFe := Lib.hid (show putF (AF rk) sk (hdW (Hf k).clean) = wasG f adj (k + 1) from by rw [HG1.out, ← HAe.out, ← hAF])
            have HIb11 := Lib.hid (show IB w10 ab acp 500 (AF 0) from by rw [HF0.out]; exact HIb10.out)
            have O10 : Only ab w9 w10 := Touch.only hq
            have B10 := B9.keep hq
            clear kq p0 p1 hA hg HA0 HA1 HA2 HWs HAe HG1 hAF HIb10
            go_wp2_with fail
            go_loopw [33] (fun i wr => ∃ r : Nat, r ≤ rk ∧ i = .int .i64 r ∧ IB wr ab acp 500 (AF r) ∧ Only ab w10 wr) (fun i _ => rk - (intOf i).toNat)
            case atStart => exact ⟨0, by omega, rfl, HIb11.out, Only.refl _ _⟩
            case round =>
            obtain ⟨w11, rfl⟩ : ∃ w11 : World, w11 = wr := ⟨_, rfl⟩
            obtain ⟨r, hr, rfl, hib, o11⟩ := hrel
            have HIb := Lib.hid hib
            have z11 := o11.size
            have O11 : Only ab w9 w11 := Touch.trans O10 o11 (fun x hx _ => hx)
            have d2 := cell_only d1 O11 (show ¬ b1 = ab by omega)
            clear hib
            by_cases hrl2 : r < rk
            · have hrI : (r : Int) < rk := by omega
              obtain ⟨n2, hn2⟩ : ∃ n2, sk + 2 + r = n2 := ⟨_, rfl⟩
              have hG := Lib.hid (HGk.out w11 r (.inr O11) hrl2)
              have hF := HFr.out r hrl2
              rw [hn2] at hG hF
              have hn5 : n2 < 500 := by omega
              have hn5I : (n2 : Int) < 500 := by omega
              have gk1 : IntKind.i64.wrap ((sk : Int) + 2) = (sk : Int) + 2 := IntWalk.i64_in _ ⟨by omega, by omega⟩
              have gk2 : IntKind.i64.wrap ((sk : Int) + 2 + (r : Int)) = (n2 : Int) := by rw [IntWalk.i64_in _ ⟨by omega, by omega⟩]; omega
              have c11 : w11.cell? ⟨ab, n2, none⟩ = some (.int .i64 (AF r n2)) := HIb.out.c hn5
              rw [hF.1] at c11
              have HF2 := Lib.hid hF.2
              obtain ⟨y, hy⟩ : ∃ y, f n2 = y := ⟨_, rfl⟩
              obtain ⟨x, hx⟩ : ∃ x, Mv y = x := ⟨_, rfl⟩
              rw [hy] at c11
              rw [hy, hx] at hG HF2
              clear hF hn2 hy hx
              go_wp2_with fail
              refine Calls.mono hG.out ?_
              clear hG
              rintro e w12 ⟨rfl, k12⟩
              have HIb12 := Lib.hid (HIb.out.keep k12)
              have d3 := cell_keep d2 k12
              have c12 := HIb12.out.c hn5
              have f12 := HIb12.out.fz n2
              have o13 : Only ab w10 (w12.setCell ⟨ab, n2, none⟩ (.int .i64 x)) := Touch.set (Touch.keep o11 k12) n2 _
              have HI13 := Lib.hid (show IB (w12.setCell ⟨ab, n2, none⟩ (.int .i64 x)) ab acp 500 (AF (r + 1)) from by rw [← HF2.out]; exact HIb12.out.set x)
              clear c11 d2
              go_wp2_with fail
              go_roundw
              case rel => exact ⟨r + 1, by omega, by go_num, HI13.out, o13⟩
              case measure => simp [intOf]; omega
            · obtain rfl : rk = r := by omega
              obtain ⟨w12, hw12⟩ : ∃ X, X = w11 := ⟨_, rfl⟩
              subst hw12
              have B12 := B10.touch o11 (show ¬ w.heap.size = ab by omega)
              have p0 := B12.c 0 _ rfl
              have p1 := B12.c 1 _ rfl
              have hok := HHk.out k hlt
              obtain ⟨hd_, hhd⟩ : ∃ hd_, Hf k = hd_ := ⟨_, rfl⟩
              rw [hhd] at HHk2 HFe hok
              clear hhd
              obtain ⟨c, ag, fw, mk, fi, dn⟩ := hd_
              unfold hdV at HHk2
              dsimp only at HHk2
              have HHq := Lib.hid (show ∀ w', Keeps w12 w' → Calls Tryz.prog 45 #[.agg #[.pointer (some ⟨pa, 0, none⟩), .slice Ac m cc], .int .i64 (sk : Int)] w' fun e w2 => e = .returned (.tuple #[.agg #[.int .i64 c, .int .i64 ag, .int .i64 fw, .bool mk, .bool fi, .bool dn], .int .i64 0]) ∧ Keeps w' w2 from fun w' kk => HHk2.out w' (Touch.keep O11 kk))
              have HWo := Lib.hid (fun w' => word16 ⟨c, ag, 0, false, fi, dn⟩ hok.clean w')
              have HFe2 := Lib.hid (show putF (AF rk) sk (hdW ⟨c, ag, 0, false, fi, dn⟩) = wasG f adj (k + 1) from HFe.out)
              dsimp only at HWo
              have d1 := d2
              clear d2 HHk2 HGk HFr HFe hok
              go_wp2_with fail
              go_cut [36, 37] from 224 to 233 (fun v _ wx => ∃ hb, v = .pointer (some ⟨hb, 0, none⟩) ∧ BL wx hb 103 [.int .i64 c, .int .i64 ag, .int .i64 fw, .bool mk, .bool fi, .bool dn] ∧ w12.heap.size ≤ hb ∧ Keeps w12 wx)
              case first =>
                have HHk := HHq
                clear HIb HWo HFe2
                refine wp_region_noPanic ?_
                refine wp_region_held_drew (S := (fun w' => Keeps w12 w')) (by kernel_rfl) (Touch.refl _ w12).drew (fun hHeld => ?_)
                refine' wpAnyH_take (i := 0) ?hi0_2 ?hs0_2 ?hf0_2 ?hr0_2 ?hQ0_2 ?hy0_2 (by assumption) ?rest0_2
                case hi0_2 => simp only [List.getElem?_toArray, List.getElem?_cons_zero] <;> rfl
                case hs0_2 => kernel_rfl
                case hf0_2 => kernel_rfl
                case hr0_2 => kernel_rfl
                case hQ0_2 => exact fun _ _ _ h => h
                case hy0_2 => exact Or.inl ⟨by rfl, fun w hSw => by have q0 := cell_keep p0 hSw; have q1 := cell_keep p1 hSw; have q2 := cell_keep d1 hSw; go_simp <;> (try with_reducible rfl)⟩
                simp only [Act.put, List.setIfInBounds_toArray, List.set_cons_zero, List.set_cons_succ]
                refine' wpAnyH_take (i := 1) ?hi1_2 ?hs1_2 ?hf1_2 ?hr1_2 ?hQ1_2 ?hy1_2 (by assumption) ?rest1_2
                case hi1_2 => simp only [List.getElem?_toArray, List.getElem?_cons_succ, List.getElem?_cons_zero] <;> rfl
                case hs1_2 => kernel_rfl
                case hf1_2 => kernel_rfl
                case hr1_2 => kernel_rfl
                case hQ1_2 => exact fun _ _ _ h => h
                case hy1_2 => exact Or.inl ⟨by rfl, fun w hSw => by have q0 := cell_keep p0 hSw; have q1 := cell_keep p1 hSw; have q2 := cell_keep d1 hSw; go_simp <;> (try with_reducible rfl)⟩
                simp only [Act.put, List.setIfInBounds_toArray, List.set_cons_zero, List.set_cons_succ]
                refine' wpAnyH_take (i := 2) ?hi2_2 ?hs2_2 ?hf2_2 ?hr2_2 ?hQ2_2 ?hy2_2 (by assumption) ?rest2_2
                case hi2_2 => simp only [List.getElem?_toArray, List.getElem?_cons_succ, List.getElem?_cons_zero] <;> rfl
                case hs2_2 => kernel_rfl
                case hf2_2 => kernel_rfl
                case hr2_2 => kernel_rfl
                case hQ2_2 => exact fun _ _ _ h => h
                case hy2_2 => exact Or.inl ⟨by rfl, fun w hSw => by have q0 := cell_keep p0 hSw; have q1 := cell_keep p1 hSw; have q2 := cell_keep d1 hSw; go_simp <;> (try with_reducible rfl)⟩
                simp only [Act.put, List.setIfInBounds_toArray, List.set_cons_zero, List.set_cons_succ]
                refine' wpAnyH_take (i := 3) ?hi3_2 ?hs3_2 ?hf3_2 ?hr3_2 ?hQ3_2 ?hy3_2 (by assumption) ?rest3_2
                case hi3_2 => simp only [List.getElem?_toArray, List.getElem?_cons_succ, List.getElem?_cons_zero] <;> rfl
                case hs3_2 => kernel_rfl
                case hf3_2 => kernel_rfl
                case hr3_2 => kernel_rfl
                case hQ3_2 => exact fun _ _ _ h => h
                case hy3_2 => exact Or.inl ⟨by rfl, fun w hSw => by have q0 := cell_keep p0 hSw; have q1 := cell_keep p1 hSw; have q2 := cell_keep d1 hSw; go_simp <;> (try with_reducible rfl)⟩
                simp only [Act.put, List.setIfInBounds_toArray, List.set_cons_zero, List.set_cons_succ]
                refine' wpAnyH_take (i := 4) ?hi4_2 ?hs4_2 ?hf4_2 ?hr4_2 ?hQ4_2 ?hy4_2 (by assumption) ?rest4_2
                case hi4_2 => simp only [List.getElem?_toArray, List.getElem?_cons_succ, List.getElem?_cons_zero] <;> rfl
                case hs4_2 => kernel_rfl
                case hf4_2 => kernel_rfl
                case hr4_2 => kernel_rfl
                case hQ4_2 => exact fun _ _ _ h => h
                case hy4_2 => exact Or.inl ⟨by rfl, fun w hSw => by have q0 := cell_keep p0 hSw; have q1 := cell_keep p1 hSw; have q2 := cell_keep d1 hSw; go_simp <;> (try with_reducible rfl)⟩
                simp only [Act.put, List.setIfInBounds_toArray, List.set_cons_zero, List.set_cons_succ]
                refine wpAnyH_ready (rs := [5, 9]) (by kernel_rfl) (by simp) ?_
                refine (AllReadyH.cons rfl (fun K hK => ?_) (AllReadyH.cons rfl (fun K hK => ?_) AllReadyH.nil))
                · go_simp
                  with_reducible refine Calls.mono (HHk.out _ hHeld) ?_
                  rintro e w13 ⟨rfl, k5⟩
                  go_wp2_with fail
                  have hHeld5 := Keeps.trans hHeld k5
                  refine hK.out _ _ hHeld5 (fun hHeld => ?_)
                  clear hK K
                  refine' wpAnyH_take (i := 6) ?hi6_3 ?hs6_3 ?hf6_3 ?hr6_3 ?hQ6_3 ?hy6_3 (by assumption) ?rest6_3
                  case hi6_3 => simp only [List.getElem?_toArray, List.getElem?_cons_succ, List.getElem?_cons_zero] <;> rfl
                  case hs6_3 => kernel_rfl
                  case hf6_3 => kernel_rfl
                  case hr6_3 => kernel_rfl
                  case hQ6_3 => exact fun _ _ _ h => h
                  case hy6_3 => exact Or.inl ⟨by rfl, fun w hSw => by go_simp <;> (try with_reducible rfl)⟩
                  simp only [Act.put, List.setIfInBounds_toArray, List.set_cons_zero, List.set_cons_succ]
                  refine' wpAnyH_take (i := 7) ?hi7_3 ?hs7_3 ?hf7_3 ?hr7_3 ?hQ7_3 ?hy7_3 (by assumption) ?rest7_3
                  case hi7_3 => simp only [List.getElem?_toArray, List.getElem?_cons_succ, List.getElem?_cons_zero] <;> rfl
                  case hs7_3 => kernel_rfl
                  case hf7_3 => kernel_rfl
                  case hr7_3 => kernel_rfl
                  case hQ7_3 => exact fun _ _ _ h => h
                  case hy7_3 => exact Or.inl ⟨by rfl, fun w hSw => by go_simp <;> (try with_reducible rfl)⟩
                  simp only [Act.put, List.setIfInBounds_toArray, List.set_cons_zero, List.set_cons_succ]
                  refine' wpAnyH_take (i := 8) ?hi8_3 ?hs8_3 ?hf8_3 ?hr8_3 ?hQ8_3 ?hy8_3 (by assumption) ?rest8_3
                  case hi8_3 => simp only [List.getElem?_toArray, List.getElem?_cons_succ, List.getElem?_cons_zero] <;> rfl
                  case hs8_3 => kernel_rfl
                  case hf8_3 => kernel_rfl
                  case hr8_3 => kernel_rfl
                  case hQ8_3 => exact fun _ _ _ h => h
                  case hy8_3 => exact Or.inl ⟨by rfl, fun w hSw => by go_simp <;> (try with_reducible rfl)⟩
                  simp only [Act.put, List.setIfInBounds_toArray, List.set_cons_zero, List.set_cons_succ]
                  refine wpAnyH_ready (rs := [9]) (by kernel_rfl) (by simp) ?_
                  refine (AllReadyH.cons rfl (fun K hK => ?_) AllReadyH.nil)
                  go_simp
                  refine hK.out _ _ (Touch.alloc hHeld5 _) (fun hHeld => ?_)
                  clear hK K
                  refine wpAnyH_ready (rs := [10]) (by kernel_rfl) (by simp) ?_
                  refine (AllReadyH.cons rfl (fun K hK => ?_) AllReadyH.nil)
                  go_simp
                  refine hK.out _ _ (Touch.alloc hHeld5 _) (fun hHeld => ?_)
                  clear hK K
                  refine' wpAnyH_take (i := 11) ?hi11_4 ?hs11_4 ?hf11_4 ?hr11_4 ?hQ11_4 ?hy11_4 (by assumption) ?rest11_4
                  case hi11_4 => simp only [List.getElem?_toArray, List.getElem?_cons_succ, List.getElem?_cons_zero] <;> rfl
                  case hs11_4 => kernel_rfl
                  case hf11_4 => kernel_rfl
                  case hr11_4 => kernel_rfl
                  case hQ11_4 => exact fun _ _ _ h => h
                  case hy11_4 => exact Or.inl ⟨by rfl, fun w hSw => by go_simp <;> (try with_reducible rfl)⟩
                  simp only [Act.put, List.setIfInBounds_toArray, List.set_cons_zero, List.set_cons_succ]
                  refine wpAnyH_done (by kernel_rfl) ?_ _
                  refine NoPanic.normal ?_
                  go_wp2_with fail
                  go_meet
                  exact ⟨w13.heap.size, rfl, BL.new1 w13 103 _ [.int .i64 c, .int .i64 ag, .int .i64 fw, .bool mk, .bool fi, .bool dn] _ rfl rfl, hHeld5.size, hHeld⟩
                · go_simp
                  have ka : Keeps w12 ((w12.drew).alloc (.cells (#[.int .i64 0, .int .i64 0, .int .i64 0, .bool false, .bool false, .bool false]) 103)) := Touch.alloc hHeld _
                  have B0 : BL ((w12.drew).alloc (.cells (#[.int .i64 0, .int .i64 0, .int .i64 0, .bool false, .bool false, .bool false]) 103)) w12.heap.size 103 [.int .i64 0, .int .i64 0, .int .i64 0, .bool false, .bool false, .bool false] := BL.new1 _ _ _ [.int .i64 0, .int .i64 0, .int .i64 0, .bool false, .bool false, .bool false] _ rfl rfl
                  refine hK.out _ _ ka (fun hHeld => ?_)
                  clear hK K
                  refine wpAnyH_ready (rs := [5]) (by kernel_rfl) (by simp) ?_
                  refine (AllReadyH.cons rfl (fun K hK => ?_) AllReadyH.nil)
                  go_simp
                  with_reducible refine Calls.mono (HHk.out _ hHeld) ?_
                  rintro e w13 ⟨rfl, k5⟩
                  go_wp2_with fail
                  have hHeld5 := Keeps.trans hHeld k5
                  refine hK.out _ _ hHeld5 (fun hHeld => ?_)
                  clear hK K
                  refine' wpAnyH_take (i := 6) ?hi6_5 ?hs6_5 ?hf6_5 ?hr6_5 ?hQ6_5 ?hy6_5 (by assumption) ?rest6_5
                  case hi6_5 => simp only [List.getElem?_toArray, List.getElem?_cons_succ, List.getElem?_cons_zero] <;> rfl
                  case hs6_5 => kernel_rfl
                  case hf6_5 => kernel_rfl
                  case hr6_5 => kernel_rfl
                  case hQ6_5 => exact fun _ _ _ h => h
                  case hy6_5 => exact Or.inl ⟨by rfl, fun w hSw => by go_simp <;> (try with_reducible rfl)⟩
                  simp only [Act.put, List.setIfInBounds_toArray, List.set_cons_zero, List.set_cons_succ]
                  refine' wpAnyH_take (i := 7) ?hi7_5 ?hs7_5 ?hf7_5 ?hr7_5 ?hQ7_5 ?hy7_5 (by assumption) ?rest7_5
                  case hi7_5 => simp only [List.getElem?_toArray, List.getElem?_cons_succ, List.getElem?_cons_zero] <;> rfl
                  case hs7_5 => kernel_rfl
                  case hf7_5 => kernel_rfl
                  case hr7_5 => kernel_rfl
                  case hQ7_5 => exact fun _ _ _ h => h
                  case hy7_5 => exact Or.inl ⟨by rfl, fun w hSw => by go_simp <;> (try with_reducible rfl)⟩
                  simp only [Act.put, List.setIfInBounds_toArray, List.set_cons_zero, List.set_cons_succ]
                  refine' wpAnyH_take (i := 8) ?hi8_5 ?hs8_5 ?hf8_5 ?hr8_5 ?hQ8_5 ?hy8_5 (by assumption) ?rest8_5
                  case hi8_5 => simp only [List.getElem?_toArray, List.getElem?_cons_succ, List.getElem?_cons_zero] <;> rfl
                  case hs8_5 => kernel_rfl
                  case hf8_5 => kernel_rfl
                  case hr8_5 => kernel_rfl
                  case hQ8_5 => exact fun _ _ _ h => h
                  case hy8_5 => exact Or.inl ⟨by rfl, fun w hSw => by go_simp <;> (try with_reducible rfl)⟩
                  simp only [Act.put, List.setIfInBounds_toArray, List.set_cons_zero, List.set_cons_succ]
                  refine wpAnyH_ready (rs := [10]) (by kernel_rfl) (by simp) ?_
                  refine (AllReadyH.cons rfl (fun K hK => ?_) AllReadyH.nil)
                  rw [if_pos (show Region.wanted _ _ = true from rfl)]
                  refine wp_store_bl 103 (.tmp 36) (.tmp 231) rfl (BL.keep B0 k5) rfl [.int .i64 c, .int .i64 ag, .int .i64 fw, .bool mk, .bool fi, .bool dn] rfl sz_rhd rfl rfl ?_
                  intro X BX kX
                  refine hK.out _ _ (Touch.new hHeld5 kX (Nat.le_refl _)) (fun hHeld => ?_)
                  clear hK K
                  simp only [Act.put, List.setIfInBounds_toArray, List.set_cons_zero, List.set_cons_succ]
                  refine' wpAnyH_take (i := 11) ?hi11_6 ?hs11_6 ?hf11_6 ?hr11_6 ?hQ11_6 ?hy11_6 (by assumption) ?rest11_6
                  case hi11_6 => simp only [List.getElem?_toArray, List.getElem?_cons_succ, List.getElem?_cons_zero] <;> rfl
                  case hs11_6 => kernel_rfl
                  case hf11_6 => kernel_rfl
                  case hr11_6 => kernel_rfl
                  case hQ11_6 => exact fun _ _ _ h => h
                  case hy11_6 => exact Or.inl ⟨by rfl, fun w hSw => by go_simp <;> (try with_reducible rfl)⟩
                  simp only [Act.put, List.setIfInBounds_toArray, List.set_cons_zero, List.set_cons_succ]
                  refine wpAnyH_done (by kernel_rfl) ?_ _
                  refine NoPanic.normal ?_
                  go_wp2_with fail
                  go_meet
                  exact ⟨w12.heap.size, rfl, BX, Nat.le_refl _, hHeld⟩
              case rest =>
              obtain ⟨w14, rfl⟩ : ∃ w14 : World, w14 = wc := ⟨_, rfl⟩
              obtain ⟨hb, rfl, B14, hhb, k14⟩ := hcut
              have h2 := B14.c 2 _ rfl
              have h3 := B14.c 3 _ rfl
              have fz2 := B14.fz 2
              have fz3 := B14.fz 3
              have hbl2 := B14.lt
              have z14 := k14.size
              have d4 := cell_keep d1 k14
              clear p0 p1 d1 HHq
              go_upto_region 51 with fail
              refine named_code (fun w15 hW15 => ?_)
              have B15 : BL w15 hb 103 [.int .i64 c, .int .i64 ag, .int .i64 0, .bool false, .bool fi, .bool dn] := by rw [hW15]; exact BL.set (BL.set B14 3 (.bool false)) 2 (.int .i64 0)
              have O15 : Only hb w14 w15 := by rw [hW15]; exact Touch.set (Touch.set (Only.refl hb w14) 3 _) 2 _
              have z15 := O15.size
              have d1 := cell_only d4 O15 (show ¬ b1 = hb by omega)
              have h0 := B15.c 0 _ rfl
              have h1 := B15.c 1 _ rfl
              have h2 := B15.c 2 _ rfl
              have h3 := B15.c 3 _ rfl
              have h4 := B15.c 4 _ rfl
              have h5 := B15.c 5 _ rfl
              have HB15 := Lib.hid ((HIb.out.keep k14).touch O15 (show ¬ ab = hb by omega))
              have K15 : Keeps w12 w15 := Keeps.new k14 O15 hhb
              have nSA : ¬ b1 = ab := by omega
              have nHA : ¬ hb = ab := by omega
              have hskn : sk < 500 := by omega
              have hskI : (sk : Int) < 500 := by omega
              clear hW15 B14 fz2 fz3 d4 B15
              refine wp_region_noPanic ?_
              refine wp_region_held_drew (S := (fun w' => Only ab w15 w')) (by kernel_rfl) (Only.refl _ w15).drew (fun hHeld => ?_)
              refine' wpAnyH_take (i := 0) ?hi0_9 ?hs0_9 ?hf0_9 ?hr0_9 ?hQ0_9 ?hy0_9 (by assumption) ?rest0_9
              case hi0_9 => simp only [List.getElem?_toArray, List.getElem?_cons_zero] <;> rfl
              case hs0_9 => kernel_rfl
              case hf0_9 => kernel_rfl
              case hr0_9 => kernel_rfl
              case hQ0_9 => exact fun _ _ _ h => h
              case hy0_9 => exact Or.inl ⟨by rfl, fun w hSw => by have q0 := cell_only d1 hSw nSA; have q1 := cell_only h0 hSw nHA; have q2 := cell_only h1 hSw nHA; have q3 := cell_only h2 hSw nHA; have q4 := cell_only h3 hSw nHA; have q5 := cell_only h4 hSw nHA; have q6 := cell_only h5 hSw nHA; go_simp <;> (try with_reducible rfl)⟩
              simp only [Act.put, List.setIfInBounds_toArray, List.set_cons_zero, List.set_cons_succ]
              refine' wpAnyH_take (i := 1) ?hi1_9 ?hs1_9 ?hf1_9 ?hr1_9 ?hQ1_9 ?hy1_9 (by assumption) ?rest1_9
              case hi1_9 => simp only [List.getElem?_toArray, List.getElem?_cons_succ, List.getElem?_cons_zero] <;> rfl
              case hs1_9 => kernel_rfl
              case hf1_9 => kernel_rfl
              case hr1_9 => kernel_rfl
              case hQ1_9 => exact fun _ _ _ h => h
              case hy1_9 => exact Or.inl ⟨by rfl, fun w hSw => by have q0 := cell_only d1 hSw nSA; have q1 := cell_only h0 hSw nHA; have q2 := cell_only h1 hSw nHA; have q3 := cell_only h2 hSw nHA; have q4 := cell_only h3 hSw nHA; have q5 := cell_only h4 hSw nHA; have q6 := cell_only h5 hSw nHA; go_simp <;> (try with_reducible rfl)⟩
              simp only [Act.put, List.setIfInBounds_toArray, List.set_cons_zero, List.set_cons_succ]
              refine' wpAnyH_take (i := 2) ?hi2_9 ?hs2_9 ?hf2_9 ?hr2_9 ?hQ2_9 ?hy2_9 (by assumption) ?rest2_9
              case hi2_9 => simp only [List.getElem?_toArray, List.getElem?_cons_succ, List.getElem?_cons_zero] <;> rfl
              case hs2_9 => kernel_rfl
              case hf2_9 => kernel_rfl
              case hr2_9 => kernel_rfl
              case hQ2_9 => exact fun _ _ _ h => h
              case hy2_9 => exact Or.inl ⟨by rfl, fun w hSw => by have q0 := cell_only d1 hSw nSA; have q1 := cell_only h0 hSw nHA; have q2 := cell_only h1 hSw nHA; have q3 := cell_only h2 hSw nHA; have q4 := cell_only h3 hSw nHA; have q5 := cell_only h4 hSw nHA; have q6 := cell_only h5 hSw nHA; go_simp <;> (try with_reducible rfl)⟩
              simp only [Act.put, List.setIfInBounds_toArray, List.set_cons_zero, List.set_cons_succ]
              refine' wpAnyH_take (i := 3) ?hi3_9 ?hs3_9 ?hf3_9 ?hr3_9 ?hQ3_9 ?hy3_9 (by assumption) ?rest3_9
              case hi3_9 => simp only [List.getElem?_toArray, List.getElem?_cons_succ, List.getElem?_cons_zero] <;> rfl
              case hs3_9 => kernel_rfl
              case hf3_9 => kernel_rfl
              case hr3_9 => kernel_rfl
              case hQ3_9 => exact fun _ _ _ h => h
              case hy3_9 => exact Or.inl ⟨by rfl, fun w hSw => by have q0 := cell_only d1 hSw nSA; have q1 := cell_only h0 hSw nHA; have q2 := cell_only h1 hSw nHA; have q3 := cell_only h2 hSw nHA; have q4 := cell_only h3 hSw nHA; have q5 := cell_only h4 hSw nHA; have q6 := cell_only h5 hSw nHA; go_simp <;> (try with_reducible rfl)⟩
              simp only [Act.put, List.setIfInBounds_toArray, List.set_cons_zero, List.set_cons_succ]
              refine' wpAnyH_take (i := 4) ?hi4_9 ?hs4_9 ?hf4_9 ?hr4_9 ?hQ4_9 ?hy4_9 (by assumption) ?rest4_9
              case hi4_9 => simp only [List.getElem?_toArray, List.getElem?_cons_succ, List.getElem?_cons_zero] <;> rfl
              case hs4_9 => kernel_rfl
              case hf4_9 => kernel_rfl
              case hr4_9 => kernel_rfl
              case hQ4_9 => exact fun _ _ _ h => h
              case hy4_9 => exact Or.inl ⟨by rfl, fun w hSw => by have q0 := cell_only d1 hSw nSA; have q1 := cell_only h0 hSw nHA; have q2 := cell_only h1 hSw nHA; have q3 := cell_only h2 hSw nHA; have q4 := cell_only h3 hSw nHA; have q5 := cell_only h4 hSw nHA; have q6 := cell_only h5 hSw nHA; go_simp <;> (try with_reducible rfl)⟩
              simp only [Act.put, List.setIfInBounds_toArray, List.set_cons_zero, List.set_cons_succ]
              refine' wpAnyH_take (i := 5) ?hi5_9 ?hs5_9 ?hf5_9 ?hr5_9 ?hQ5_9 ?hy5_9 (by assumption) ?rest5_9
              case hi5_9 => simp only [List.getElem?_toArray, List.getElem?_cons_succ, List.getElem?_cons_zero] <;> rfl
              case hs5_9 => kernel_rfl
              case hf5_9 => kernel_rfl
              case hr5_9 => kernel_rfl
              case hQ5_9 => exact fun _ _ _ h => h
              case hy5_9 => exact Or.inl ⟨by rfl, fun w hSw => by have q0 := cell_only d1 hSw nSA; have q1 := cell_only h0 hSw nHA; have q2 := cell_only h1 hSw nHA; have q3 := cell_only h2 hSw nHA; have q4 := cell_only h3 hSw nHA; have q5 := cell_only h4 hSw nHA; have q6 := cell_only h5 hSw nHA; go_simp <;> (try with_reducible rfl)⟩
              simp only [Act.put, List.setIfInBounds_toArray, List.set_cons_zero, List.set_cons_succ]
              refine wpAnyH_ready (rs := [6]) (by kernel_rfl) (by simp) ?_
              refine AllReadyH.cons rfl (fun K hK => ?_) AllReadyH.nil
              go_simp
              with_reducible refine Calls.mono (HWo.out _) ?_
              rintro e w16 ⟨rfl, kq⟩
              go_wp2_with fail
              have hq : Only ab w15 w16 := hHeld.trans_ (Touch.only kq)
              have B16 := HB15.out.keep (Keeps.trans (Touch.drew (Touch.refl (fun _ => False) w15)) kq)
              have c16 := B16.c hskn
              have f16 := B16.fz sk
              refine hK.out _ _ hq (fun hHeld => ?_)
              clear hK K
              refine' wpAnyH_take (i := 7) ?hi7_10 ?hs7_10 ?hf7_10 ?hr7_10 ?hQ7_10 ?hy7_10 (by assumption) ?rest7_10
              case hi7_10 => simp only [List.getElem?_toArray, List.getElem?_cons_succ, List.getElem?_cons_zero] <;> rfl
              case hs7_10 => kernel_rfl
              case hf7_10 => kernel_rfl
              case hr7_10 => kernel_rfl
              case hQ7_10 => exact fun _ _ _ h => h
              case hy7_10 => exact Or.inl ⟨by rfl, fun w hSw => by go_simp <;> (try with_reducible rfl)⟩
              simp only [Act.put, List.setIfInBounds_toArray, List.set_cons_zero, List.set_cons_succ]
              refine wpAnyH_ready (rs := [8]) (by kernel_rfl) (by simp) ?_
              refine (AllReadyH.cons rfl (fun K hK => ?_) AllReadyH.nil)
              rw [if_pos (show Region.wanted _ _ = true from rfl)]
              go_simp
              have hib17 := B16.set (j := sk) (hdW ⟨c, ag, 0, false, fi, dn⟩)
              have o17 : Only ab w15 (w16.setCell ⟨ab, sk, none⟩ (.int .i64 (hdW ⟨c, ag, 0, false, fi, dn⟩))) := Touch.set hq sk _
              refine hK.out _ _ o17 (fun hHeld => ?_)
              clear hK K
              refine wpAnyH_done (by kernel_rfl) ?_ _
              refine NoPanic.normal ?_
              rw [HFe2.out] at hib17
              have HI17 := Lib.hid hib17
              have OO : Only ab w8 (w16.setCell ⟨ab, sk, none⟩ (.int .i64 (hdW ⟨c, ag, 0, false, fi, dn⟩))) := Touch.trans (Touch.trans o9 O11 (fun x hx _ => hx)) (Touch.trans (Touch.only K15) o17 (fun x hx _ => hx)) (fun x hx _ => hx)
              clear hib17 h0 h1 h2 h3 h4 h5 d1 c16 f16 B16
              go_wp2_with fail
              go_roundw
              case rel => exact ⟨k + 1, by omega, by go_num, HI17.out, OO⟩
              case measure => simp [intOf]; omega
          · obtain rfl : nm = k := by omega
            have HT9 := Lib.hid (HT8.out.keepS o9 (fun b off e h => by have := HTb.out b off e; omega))
            have HZ9 := Lib.hid (HZ8.out.keepS o9 (fun b off e h => by have := HZb.out b off e; omega))
            have HN9 := Lib.hid (HN8.out.keepS o9 (fun b off e h => by have := HNb.out b off e; omega))
            have HO9 := Lib.hid (HOut.out.touch o9 (show ¬ ob = ab from fun e => hab7.1 e.symm))
            have HB9 := Lib.hid (HB.out.keep K9)
            have zz3 := K3.size
            have zz4 := K4.size
            have pt9 := (HR.out.keep K9).ptr
            obtain ⟨was, hwas⟩ : ∃ was, wasG f adj nm = was := ⟨_, rfl⟩
            rw [hwas] at HIb HDo
            have HI9 := Lib.hid HIb.out
            clear hwas HIb HB HR HSh HHd HHk HGo HRf HW0 HAk HAd HRb HT8 HZ8 HN8 HOut HI8
            go_wp2_with fail
            go_loopw [246] (fun i wr => ∃ k : Nat, k ≤ nm ∧ i = .int .i64 k ∧ IB wr wb wcp 500 (finF f was P S Z k) ∧ Only wb w9 wr) (fun i _ => nm - (intOf i).toNat)
            case atStart => exact ⟨0, by omega, rfl, HB9.out, Only.refl _ _⟩
            case round =>
            obtain ⟨w10, rfl⟩ : ∃ w10 : World, w10 = wr := ⟨_, rfl⟩
            obtain ⟨k, hk, rfl, hib, o10⟩ := hrel
            have HIb := Lib.hid hib
            have z10 := o10.size
            clear hib
            by_cases hlt : k < nm
            · have hltI : (k : Int) < nm := by omega
              have hz1 := HZk.out k hlt
              have hp1 := HPb.out k hlt
              obtain ⟨sk, hsk⟩ : ∃ sk : Nat, S k = sk := ⟨(S k).toNat, by omega⟩
              obtain ⟨pk, hpk⟩ : ∃ pk : Nat, P k = pk := ⟨(P k).toNat, by omega⟩
              obtain ⟨zk, hzk⟩ : ∃ zk : Nat, Z k = zk := ⟨(Z k).toNat, by omega⟩
              obtain ⟨b1, q1, rfl, y1⟩ := (HSr.out.keep K9).one hlt
              obtain ⟨tb, to2, rfl, y2⟩ := HT9.out.one hlt
              obtain ⟨zb, zo, rfl, y3⟩ := HZ9.out.one hlt
              have hsb1 := HSb.out b1 q1 rfl
              have htb1 := HTb.out tb to2 rfl
              have hzb1 := HZb.out zb zo rfl
              have d9 : w9.cell? ⟨b1, q1 + k, none⟩ = some (.int .i64 (sk : Int)) := by rw [← hsk]; exact y1
              have t9 : w9.cell? ⟨tb, to2 + k, none⟩ = some (.int .i64 (pk : Int)) := by rw [← hpk]; exact y2
              have s9 : w9.cell? ⟨zb, zo + k, none⟩ = some (.int .i64 (zk : Int)) := by rw [← hzk]; exact y3
              rw [hsk, hzk] at hz1
              rw [hpk, hzk] at hp1
              have HFn := Lib.hid (show finF f was P S Z (k + 1) = copyF (finF f was P S Z k) was (pk : Int) (sk : Int) (zk : Int) from by rw [← hsk, ← hpk, ← hzk]; rfl)
              have nBW : ¬ w.heap.size = wb := by omega
              have nPW : ¬ pa = wb := hpw
              have nTW : ¬ tb = wb := by omega
              have nSW : ¬ b1 = wb := hsb1.1
              have nAW : ¬ ab = wb := by omega
              have nZW : ¬ zb = wb := by omega
              obtain ⟨g0, hg0⟩ : ∃ g0, finF f was P S Z k = g0 := ⟨_, rfl⟩
              rw [hg0] at HFn HIb
              have s10 := cell_only s9 o10 nZW
              clear y1 y2 y3 hsk hpk hzk hg0
              go_wp2_with fail
              go_loopw [39] (fun i wr => ∃ q : Nat, q ≤ zk ∧ i = .int .i64 q ∧ IB wr wb wcp 500 (copyF g0 was (pk : Int) (sk : Int) (q : Int)) ∧ Only wb w10 wr) (fun i _ => zk - (intOf i).toNat)
              case atStart => exact ⟨0, by omega, rfl, by rw [show ((0 : Nat) : Int) = 0 from rfl, copyF_zero]; exact HIb.out, Only.refl _ _⟩
              case round =>
              obtain ⟨w11, rfl⟩ : ∃ w11 : World, w11 = wr := ⟨_, rfl⟩
              obtain ⟨q, hq, rfl, hib, o11⟩ := hrel
              have HB11 := Lib.hid hib
              have O11 : Only wb w9 w11 := Touch.trans o10 o11 (fun x hx _ => hx)
              have s11 := cell_only s9 O11 nZW
              clear hib
              by_cases hlt2 : q < zk
              · have hqI : (q : Int) < zk := by omega
                obtain ⟨n1, hn1⟩ : ∃ n1, sk + q = n1 := ⟨_, rfl⟩
                obtain ⟨n2, hn2⟩ : ∃ n2, pk + q = n2 := ⟨_, rfl⟩
                have gk1 : IntKind.i64.wrap ((pk : Int) + (q : Int)) = (n2 : Int) := by rw [IntWalk.i64_in _ ⟨by omega, by omega⟩]; omega
                have gk2 : IntKind.i64.wrap ((sk : Int) + (q : Int)) = (n1 : Int) := by rw [IntWalk.i64_in _ ⟨by omega, by omega⟩]; omega
                have hn1I : (n1 : Int) < 500 := by omega
                have hn2I : (n2 : Int) < 500 := by omega
                have hn2N : n2 < 500 := by omega
                have hCp := copyF_succ (g := g0) (src := was) (dst := (pk : Int)) (s := (sk : Int)) (by omega) q
                rw [show ((pk : Int) + (q : Int)).toNat = n2 by omega, show ((sk : Int) + (q : Int)).toNat = n1 by omega] at hCp
                obtain ⟨Y, hY⟩ : ∃ Y, was n1 = Y := ⟨_, rfl⟩
                rw [hY] at hCp
                have HCp := Lib.hid hCp
                have y1 : w11.cell? ⟨ab, n1, none⟩ = some (.int .i64 Y) := by rw [← hY]; exact (HI9.out.touch O11 nAW).c (by omega)
                have d1 := cell_only d9 O11 nSW
                have t1 := cell_only t9 O11 nTW
                have pt := cell_only pt9 O11 nPW
                have B11 := B9.touch O11 nBW
                have p0 := B11.c 0 _ rfl
                obtain ⟨G1, hG1⟩ : ∃ G1, copyF g0 was (pk : Int) (sk : Int) (q : Int) = G1 := ⟨_, rfl⟩
                rw [hG1] at HB11 HCp
                have c11 := HB11.out.c hn2N
                have f11 := HB11.out.fz n2
                clear hn1 hn2 hCp hY hG1 B11
                go_wp2_with fail
                refine wp_region_noPanic ?_
                refine wp_region_held_drew (S := (fun w' => Only wb w11 w')) (by kernel_rfl) (Only.refl _ w11).drew (fun hHeld => ?_)
                refine' wpAnyH_take (i := 0) ?hi0_7 ?hs0_7 ?hf0_7 ?hr0_7 ?hQ0_7 ?hy0_7 (by assumption) ?rest0_7
                case hi0_7 => simp only [List.getElem?_toArray, List.getElem?_cons_zero] <;> rfl
                case hs0_7 => kernel_rfl
                case hf0_7 => kernel_rfl
                case hr0_7 => kernel_rfl
                case hQ0_7 => exact fun _ _ _ h => h
                case hy0_7 => exact Or.inl ⟨by rfl, fun w hSw => by have q0 := cell_only p0 hSw nBW; have q1 := cell_only pt hSw nPW; have q2 := cell_only t1 hSw nTW; have q3 := cell_only d1 hSw nSW; have q4 := cell_only y1 hSw nAW; go_simp <;> (try with_reducible rfl)⟩
                simp only [Act.put, List.setIfInBounds_toArray, List.set_cons_zero, List.set_cons_succ]
                refine' wpAnyH_take (i := 1) ?hi1_7 ?hs1_7 ?hf1_7 ?hr1_7 ?hQ1_7 ?hy1_7 (by assumption) ?rest1_7
                case hi1_7 => simp only [List.getElem?_toArray, List.getElem?_cons_succ, List.getElem?_cons_zero] <;> rfl
                case hs1_7 => kernel_rfl
                case hf1_7 => kernel_rfl
                case hr1_7 => kernel_rfl
                case hQ1_7 => exact fun _ _ _ h => h
                case hy1_7 => exact Or.inl ⟨by rfl, fun w hSw => by have q0 := cell_only p0 hSw nBW; have q1 := cell_only pt hSw nPW; have q2 := cell_only t1 hSw nTW; have q3 := cell_only d1 hSw nSW; have q4 := cell_only y1 hSw nAW; go_simp <;> (try with_reducible rfl)⟩
                simp only [Act.put, List.setIfInBounds_toArray, List.set_cons_zero, List.set_cons_succ]
                refine' wpAnyH_take (i := 2) ?hi2_7 ?hs2_7 ?hf2_7 ?hr2_7 ?hQ2_7 ?hy2_7 (by assumption) ?rest2_7
                case hi2_7 => simp only [List.getElem?_toArray, List.getElem?_cons_succ, List.getElem?_cons_zero] <;> rfl
                case hs2_7 => kernel_rfl
                case hf2_7 => kernel_rfl
                case hr2_7 => kernel_rfl
                case hQ2_7 => exact fun _ _ _ h => h
                case hy2_7 => exact Or.inl ⟨by rfl, fun w hSw => by have q0 := cell_only p0 hSw nBW; have q1 := cell_only pt hSw nPW; have q2 := cell_only t1 hSw nTW; have q3 := cell_only d1 hSw nSW; have q4 := cell_only y1 hSw nAW; go_simp <;> (try with_reducible rfl)⟩
                simp only [Act.put, List.setIfInBounds_toArray, List.set_cons_zero, List.set_cons_succ]
                refine' wpAnyH_take (i := 3) ?hi3_7 ?hs3_7 ?hf3_7 ?hr3_7 ?hQ3_7 ?hy3_7 (by assumption) ?rest3_7
                case hi3_7 => simp only [List.getElem?_toArray, List.getElem?_cons_succ, List.getElem?_cons_zero] <;> rfl
                case hs3_7 => kernel_rfl
                case hf3_7 => kernel_rfl
                case hr3_7 => kernel_rfl
                case hQ3_7 => exact fun _ _ _ h => h
                case hy3_7 => exact Or.inl ⟨by rfl, fun w hSw => by have q0 := cell_only p0 hSw nBW; have q1 := cell_only pt hSw nPW; have q2 := cell_only t1 hSw nTW; have q3 := cell_only d1 hSw nSW; have q4 := cell_only y1 hSw nAW; go_simp <;> (try with_reducible rfl)⟩
                simp only [Act.put, List.setIfInBounds_toArray, List.set_cons_zero, List.set_cons_succ]
                refine' wpAnyH_take (i := 4) ?hi4_7 ?hs4_7 ?hf4_7 ?hr4_7 ?hQ4_7 ?hy4_7 (by assumption) ?rest4_7
                case hi4_7 => simp only [List.getElem?_toArray, List.getElem?_cons_succ, List.getElem?_cons_zero] <;> rfl
                case hs4_7 => kernel_rfl
                case hf4_7 => kernel_rfl
                case hr4_7 => kernel_rfl
                case hQ4_7 => exact fun _ _ _ h => h
                case hy4_7 => exact Or.inl ⟨by rfl, fun w hSw => by have q0 := cell_only p0 hSw nBW; have q1 := cell_only pt hSw nPW; have q2 := cell_only t1 hSw nTW; have q3 := cell_only d1 hSw nSW; have q4 := cell_only y1 hSw nAW; go_simp <;> (try with_reducible rfl)⟩
                simp only [Act.put, List.setIfInBounds_toArray, List.set_cons_zero, List.set_cons_succ]
                refine' wpAnyH_take (i := 5) ?hi5_7 ?hs5_7 ?hf5_7 ?hr5_7 ?hQ5_7 ?hy5_7 (by assumption) ?rest5_7
                case hi5_7 => simp only [List.getElem?_toArray, List.getElem?_cons_succ, List.getElem?_cons_zero] <;> rfl
                case hs5_7 => kernel_rfl
                case hf5_7 => kernel_rfl
                case hr5_7 => kernel_rfl
                case hQ5_7 => exact fun _ _ _ h => h
                case hy5_7 => exact Or.inl ⟨by rfl, fun w hSw => by have q0 := cell_only p0 hSw nBW; have q1 := cell_only pt hSw nPW; have q2 := cell_only t1 hSw nTW; have q3 := cell_only d1 hSw nSW; have q4 := cell_only y1 hSw nAW; go_simp <;> (try with_reducible rfl)⟩
                simp only [Act.put, List.setIfInBounds_toArray, List.set_cons_zero, List.set_cons_succ]
                refine' wpAnyH_take (i := 6) ?hi6_7 ?hs6_7 ?hf6_7 ?hr6_7 ?hQ6_7 ?hy6_7 (by assumption) ?rest6_7
                case hi6_7 => simp only [List.getElem?_toArray, List.getElem?_cons_succ, List.getElem?_cons_zero] <;> rfl
                case hs6_7 => kernel_rfl
                case hf6_7 => kernel_rfl
                case hr6_7 => kernel_rfl
                case hQ6_7 => exact fun _ _ _ h => h
                case hy6_7 => exact Or.inl ⟨by rfl, fun w hSw => by have q0 := cell_only p0 hSw nBW; have q1 := cell_only pt hSw nPW; have q2 := cell_only t1 hSw nTW; have q3 := cell_only d1 hSw nSW; have q4 := cell_only y1 hSw nAW; go_simp <;> (try with_reducible rfl)⟩
                simp only [Act.put, List.setIfInBounds_toArray, List.set_cons_zero, List.set_cons_succ]
                refine' wpAnyH_take (i := 7) ?hi7_7 ?hs7_7 ?hf7_7 ?hr7_7 ?hQ7_7 ?hy7_7 (by assumption) ?rest7_7
                case hi7_7 => simp only [List.getElem?_toArray, List.getElem?_cons_succ, List.getElem?_cons_zero] <;> rfl
                case hs7_7 => kernel_rfl
                case hf7_7 => kernel_rfl
                case hr7_7 => kernel_rfl
                case hQ7_7 => exact fun _ _ _ h => h
                case hy7_7 => exact Or.inl ⟨by rfl, fun w hSw => by have q0 := cell_only p0 hSw nBW; have q1 := cell_only pt hSw nPW; have q2 := cell_only t1 hSw nTW; have q3 := cell_only d1 hSw nSW; have q4 := cell_only y1 hSw nAW; go_simp <;> (try with_reducible rfl)⟩
                simp only [Act.put, List.setIfInBounds_toArray, List.set_cons_zero, List.set_cons_succ]
                refine' wpAnyH_take (i := 8) ?hi8_7 ?hs8_7 ?hf8_7 ?hr8_7 ?hQ8_7 ?hy8_7 (by assumption) ?rest8_7
                case hi8_7 => simp only [List.getElem?_toArray, List.getElem?_cons_succ, List.getElem?_cons_zero] <;> rfl
                case hs8_7 => kernel_rfl
                case hf8_7 => kernel_rfl
                case hr8_7 => kernel_rfl
                case hQ8_7 => exact fun _ _ _ h => h
                case hy8_7 => exact Or.inl ⟨by rfl, fun w hSw => by have q0 := cell_only p0 hSw nBW; have q1 := cell_only pt hSw nPW; have q2 := cell_only t1 hSw nTW; have q3 := cell_only d1 hSw nSW; have q4 := cell_only y1 hSw nAW; go_simp <;> (try with_reducible rfl)⟩
                simp only [Act.put, List.setIfInBounds_toArray, List.set_cons_zero, List.set_cons_succ]
                refine' wpAnyH_take (i := 9) ?hi9_7 ?hs9_7 ?hf9_7 ?hr9_7 ?hQ9_7 ?hy9_7 (by assumption) ?rest9_7
                case hi9_7 => simp only [List.getElem?_toArray, List.getElem?_cons_succ, List.getElem?_cons_zero] <;> rfl
                case hs9_7 => kernel_rfl
                case hf9_7 => kernel_rfl
                case hr9_7 => kernel_rfl
                case hQ9_7 => exact fun _ _ _ h => h
                case hy9_7 => exact Or.inl ⟨by rfl, fun w hSw => by have q0 := cell_only p0 hSw nBW; have q1 := cell_only pt hSw nPW; have q2 := cell_only t1 hSw nTW; have q3 := cell_only d1 hSw nSW; have q4 := cell_only y1 hSw nAW; go_simp <;> (try with_reducible rfl)⟩
                simp only [Act.put, List.setIfInBounds_toArray, List.set_cons_zero, List.set_cons_succ]
                refine' wpAnyH_take (i := 10) ?hi10_7 ?hs10_7 ?hf10_7 ?hr10_7 ?hQ10_7 ?hy10_7 (by assumption) ?rest10_7
                case hi10_7 => simp only [List.getElem?_toArray, List.getElem?_cons_succ, List.getElem?_cons_zero] <;> rfl
                case hs10_7 => kernel_rfl
                case hf10_7 => kernel_rfl
                case hr10_7 => kernel_rfl
                case hQ10_7 => exact fun _ _ _ h => h
                case hy10_7 => exact Or.inl ⟨by rfl, fun w hSw => by have q0 := cell_only p0 hSw nBW; have q1 := cell_only pt hSw nPW; have q2 := cell_only t1 hSw nTW; have q3 := cell_only d1 hSw nSW; have q4 := cell_only y1 hSw nAW; go_simp <;> (try with_reducible rfl)⟩
                simp only [Act.put, List.setIfInBounds_toArray, List.set_cons_zero, List.set_cons_succ]
                refine' wpAnyH_take (i := 11) ?hi11_7 ?hs11_7 ?hf11_7 ?hr11_7 ?hQ11_7 ?hy11_7 (by assumption) ?rest11_7
                case hi11_7 => simp only [List.getElem?_toArray, List.getElem?_cons_succ, List.getElem?_cons_zero] <;> rfl
                case hs11_7 => kernel_rfl
                case hf11_7 => kernel_rfl
                case hr11_7 => kernel_rfl
                case hQ11_7 => exact fun _ _ _ h => h
                case hy11_7 => exact Or.inl ⟨by rfl, fun w hSw => by have q0 := cell_only p0 hSw nBW; have q1 := cell_only pt hSw nPW; have q2 := cell_only t1 hSw nTW; have q3 := cell_only d1 hSw nSW; have q4 := cell_only y1 hSw nAW; go_simp <;> (try with_reducible rfl)⟩
                simp only [Act.put, List.setIfInBounds_toArray, List.set_cons_zero, List.set_cons_succ]
                refine' wpAnyH_take (i := 12) ?hi12_7 ?hs12_7 ?hf12_7 ?hr12_7 ?hQ12_7 ?hy12_7 (by assumption) ?rest12_7
                case hi12_7 => simp only [List.getElem?_toArray, List.getElem?_cons_succ, List.getElem?_cons_zero] <;> rfl
                case hs12_7 => kernel_rfl
                case hf12_7 => kernel_rfl
                case hr12_7 => kernel_rfl
                case hQ12_7 => exact fun _ _ _ h => h
                case hy12_7 => exact Or.inl ⟨by rfl, fun w hSw => by have q0 := cell_only p0 hSw nBW; have q1 := cell_only pt hSw nPW; have q2 := cell_only t1 hSw nTW; have q3 := cell_only d1 hSw nSW; have q4 := cell_only y1 hSw nAW; go_simp <;> (try with_reducible rfl)⟩
                simp only [Act.put, List.setIfInBounds_toArray, List.set_cons_zero, List.set_cons_succ]
                refine' wpAnyH_take (i := 13) ?hi13_7 ?hs13_7 ?hf13_7 ?hr13_7 ?hQ13_7 ?hy13_7 (by assumption) ?rest13_7
                case hi13_7 => simp only [List.getElem?_toArray, List.getElem?_cons_succ, List.getElem?_cons_zero] <;> rfl
                case hs13_7 => kernel_rfl
                case hf13_7 => kernel_rfl
                case hr13_7 => kernel_rfl
                case hQ13_7 => exact fun _ _ _ h => h
                case hy13_7 => exact Or.inl ⟨by rfl, fun w hSw => by have q0 := cell_only p0 hSw nBW; have q1 := cell_only pt hSw nPW; have q2 := cell_only t1 hSw nTW; have q3 := cell_only d1 hSw nSW; have q4 := cell_only y1 hSw nAW; go_simp <;> (try with_reducible rfl)⟩
                simp only [Act.put, List.setIfInBounds_toArray, List.set_cons_zero, List.set_cons_succ]
                refine' wpAnyH_take (i := 14) ?hi14_7 ?hs14_7 ?hf14_7 ?hr14_7 ?hQ14_7 ?hy14_7 (by assumption) ?rest14_7
                case hi14_7 => simp only [List.getElem?_toArray, List.getElem?_cons_succ, List.getElem?_cons_zero] <;> rfl
                case hs14_7 => kernel_rfl
                case hf14_7 => kernel_rfl
                case hr14_7 => kernel_rfl
                case hQ14_7 => exact fun _ _ _ h => h
                case hy14_7 => exact Or.inl ⟨by rfl, fun w hSw => by have q0 := cell_only p0 hSw nBW; have q1 := cell_only pt hSw nPW; have q2 := cell_only t1 hSw nTW; have q3 := cell_only d1 hSw nSW; have q4 := cell_only y1 hSw nAW; go_simp <;> (try with_reducible rfl)⟩
                simp only [Act.put, List.setIfInBounds_toArray, List.set_cons_zero, List.set_cons_succ]
                refine' wpAnyH_take (i := 15) ?hi15_7 ?hs15_7 ?hf15_7 ?hr15_7 ?hQ15_7 ?hy15_7 (by assumption) ?rest15_7
                case hi15_7 => simp only [List.getElem?_toArray, List.getElem?_cons_succ, List.getElem?_cons_zero] <;> rfl
                case hs15_7 => kernel_rfl
                case hf15_7 => kernel_rfl
                case hr15_7 => kernel_rfl
                case hQ15_7 => exact fun _ _ _ h => h
                case hy15_7 => exact Or.inl ⟨by rfl, fun w hSw => by have q0 := cell_only p0 hSw nBW; have q1 := cell_only pt hSw nPW; have q2 := cell_only t1 hSw nTW; have q3 := cell_only d1 hSw nSW; have q4 := cell_only y1 hSw nAW; go_simp <;> (try with_reducible rfl)⟩
                simp only [Act.put, List.setIfInBounds_toArray, List.set_cons_zero, List.set_cons_succ]
                refine' wpAnyH_take (i := 16) ?hi16_7 ?hs16_7 ?hf16_7 ?hr16_7 ?hQ16_7 ?hy16_7 (by assumption) ?rest16_7
                case hi16_7 => simp only [List.getElem?_toArray, List.getElem?_cons_succ, List.getElem?_cons_zero] <;> rfl
                case hs16_7 => kernel_rfl
                case hf16_7 => kernel_rfl
                case hr16_7 => kernel_rfl
                case hQ16_7 => exact fun _ _ _ h => h
                case hy16_7 => exact Or.inl ⟨by rfl, fun w hSw => by have q0 := cell_only p0 hSw nBW; have q1 := cell_only pt hSw nPW; have q2 := cell_only t1 hSw nTW; have q3 := cell_only d1 hSw nSW; have q4 := cell_only y1 hSw nAW; go_simp <;> (try with_reducible rfl)⟩
                simp only [Act.put, List.setIfInBounds_toArray, List.set_cons_zero, List.set_cons_succ]
                refine' wpAnyH_take (i := 17) ?hi17_7 ?hs17_7 ?hf17_7 ?hr17_7 ?hQ17_7 ?hy17_7 (by assumption) ?rest17_7
                case hi17_7 => simp only [List.getElem?_toArray, List.getElem?_cons_succ, List.getElem?_cons_zero] <;> rfl
                case hs17_7 => kernel_rfl
                case hf17_7 => kernel_rfl
                case hr17_7 => kernel_rfl
                case hQ17_7 => exact fun _ _ _ h => h
                case hy17_7 => exact Or.inl ⟨by rfl, fun w hSw => by have q0 := cell_only p0 hSw nBW; have q1 := cell_only pt hSw nPW; have q2 := cell_only t1 hSw nTW; have q3 := cell_only d1 hSw nSW; have q4 := cell_only y1 hSw nAW; go_simp <;> (try with_reducible rfl)⟩
                simp only [Act.put, List.setIfInBounds_toArray, List.set_cons_zero, List.set_cons_succ]
                refine' wpAnyH_take (i := 18) ?hi18_7 ?hs18_7 ?hf18_7 ?hr18_7 ?hQ18_7 ?hy18_7 (by assumption) ?rest18_7
                case hi18_7 => simp only [List.getElem?_toArray, List.getElem?_cons_succ, List.getElem?_cons_zero] <;> rfl
                case hs18_7 => kernel_rfl
                case hf18_7 => kernel_rfl
                case hr18_7 => kernel_rfl
                case hQ18_7 => exact fun _ _ _ h => h
                case hy18_7 => exact Or.inl ⟨by rfl, fun w hSw => by have q0 := cell_only p0 hSw nBW; have q1 := cell_only pt hSw nPW; have q2 := cell_only t1 hSw nTW; have q3 := cell_only d1 hSw nSW; have q4 := cell_only y1 hSw nAW; go_simp <;> (try with_reducible rfl)⟩
                simp only [Act.put, List.setIfInBounds_toArray, List.set_cons_zero, List.set_cons_succ]
                refine' wpAnyH_take (i := 19) ?hi19_7 ?hs19_7 ?hf19_7 ?hr19_7 ?hQ19_7 ?hy19_7 (by assumption) ?rest19_7
                case hi19_7 => simp only [List.getElem?_toArray, List.getElem?_cons_succ, List.getElem?_cons_zero] <;> rfl
                case hs19_7 => kernel_rfl
                case hf19_7 => kernel_rfl
                case hr19_7 => kernel_rfl
                case hQ19_7 => exact fun _ _ _ h => h
                case hy19_7 => exact Or.inl ⟨by rfl, fun w hSw => by have q0 := cell_only p0 hSw nBW; have q1 := cell_only pt hSw nPW; have q2 := cell_only t1 hSw nTW; have q3 := cell_only d1 hSw nSW; have q4 := cell_only y1 hSw nAW; go_simp <;> (try with_reducible rfl)⟩
                simp only [Act.put, List.setIfInBounds_toArray, List.set_cons_zero, List.set_cons_succ]
                refine' wpAnyH_take (i := 20) ?hi20_8 ?hs20_8 ?hf20_8 ?hr20_8 ?hQ20_8 ?hy20_8 (by assumption) ?rest20_8
                case hi20_8 => simp only [List.getElem?_toArray, List.getElem?_cons_succ, List.getElem?_cons_zero] <;> rfl
                case hs20_8 => kernel_rfl
                case hf20_8 => kernel_rfl
                case hr20_8 => kernel_rfl
                case hQ20_8 => exact fun _ _ _ h => h
                case hy20_8 => exact Or.inl ⟨by rfl, fun w hSw => by go_simp <;> (try with_reducible rfl)⟩
                simp only [Act.put, List.setIfInBounds_toArray, List.set_cons_zero, List.set_cons_succ]
                refine wpAnyH_ready (rs := [21]) (by kernel_rfl) (by simp) ?_
                refine (AllReadyH.cons rfl (fun K hK => ?_) AllReadyH.nil)
                go_simp
                have hib12 := (IB.touch HB11.out (Touch.drew (Touch.refl (fun _ => False) w11)) (fun h => h)).set (j := n2) Y
                have o12 : Only wb w10 (w11.drew.setCell ⟨wb, n2, none⟩ (.int .i64 Y)) := Touch.set (Touch.drew o11) n2 _
                refine hK.out _ _ (Touch.set hHeld n2 _) (fun hHeld => ?_)
                clear hK K
                refine wpAnyH_done (by kernel_rfl) ?_ _
                refine NoPanic.normal ?_
                go_wp2_with fail
                go_roundw
                case rel => exact ⟨q + 1, by omega, by go_num, by rw [← HCp.out]; exact hib12, o12⟩
                case measure => simp [intOf]; omega
              · obtain rfl : zk = q := by omega
                have HB12 := Lib.hid (show IB w11 wb wcp 500 (finF f was P S Z (k + 1)) from by rw [HFn.out]; exact HB11.out)
                have O12 : Only wb w9 w11 := O11
                clear HFn HB11
                go_wp2_with fail
                go_roundw
                case rel => exact ⟨k + 1, by omega, by go_num, HB12.out, O12⟩
                case measure => simp [intOf]; omega
            · obtain rfl : nm = k := by omega
              have HFi := Lib.hid (HDo.out (.returned (.tuple #[.slice (some ⟨ob, 0, none⟩) rr rr, .slice ad 3 cp, .int .i64 0])) w10 ⟨_, _, _, _, rfl, (HO9.out.touch o10 (show ¬ ob = wb by omega)).rd, HN9.out.keepS o10 (fun b off e h => by have := HNb.out b off e; omega), HIb.out, Touch.trans (Touch.only K9) o10 (fun x hx _ => hx)⟩)
              clear HDo
              go_wp2_with fail
              exact HFi.out

end Go.Proofs.YtkjgfblkbjlohaaGreat
