/- The spiral in plain Lean: where the cells lie, as integers and as floats; no program in sight. -/
import Derived.WalkLawsBesides
import Derived.Laws.Cover2
import Derived.Laws.Cover3
namespace Go.Proofs.Ytnpmadnihheahaa

/-- The spiral's state: where, which way (how often it was turned), how long the run is, how far it has gone. -/
structure Sp where
  x : Int
  y : Int
  run : Int
  gone : Int
  turns : Int
def wx (t : Int) : Int := if t % 4 = 0 then 1 else if t % 4 = 2 then -1 else 0
def wy (t : Int) : Int := if t % 4 = 1 then 1 else if t % 4 = 3 then -1 else 0
def Sp.next (s : Sp) : Sp :=
  if s.gone + 1 = s.run then ⟨s.x + wx s.turns, s.y + wy s.turns, s.run + (1 - (s.turns + 1) % 2), 0, s.turns + 1⟩
  else ⟨s.x + wx s.turns, s.y + wy s.turns, s.run, s.gone + 1, s.turns⟩
def Sp.start : Sp := ⟨0, 0, 1, 0, 0⟩
def St : Nat → Sp
  | 0 => Sp.start
  | n + 1 => (St n).next

/-- A test of all states, one behind the other. -/
def checkAll (p : Nat → Sp → Bool) : Nat → Sp → Nat → Bool
  | 0, _, _ => true
  | k + 1, s, n => p n s && checkAll p k s.next (n + 1)
theorem checkAll_at {p : Nat → Sp → Bool} : ∀ (k : Nat) (s : Sp) (n : Nat), checkAll p k s n = true → St n = s → ∀ m, m < k → p (n + m) (St (n + m)) = true
  | 0, _, _, _, _, m, hm => by omega
  | k + 1, s, n, h, hs, m, hm => by
    unfold checkAll at h
    rw [Bool.and_eq_true] at h
    by_cases e : m = 0
    · subst e; rw [Nat.add_zero, hs]; exact h.1
    · have := checkAll_at k s.next (n + 1) h.2 (by show (St n).next = _; rw [hs]) (m - 1) (by omega)
      rwa [show n + 1 + (m - 1) = n + m from by omega] at this

/-- How far from the middle. -/
def ring (x y : Int) : Nat := max x.natAbs y.natAbs
/-- The cell at a place. -/
def idx (x y : Int) : Int :=
  let r : Int := ring x y
  if r = 0 then 0
  else if x = r ∧ y ≠ -r then (2 * r - 1) * (2 * r - 1) + (y + r - 1)
  else if y = r then (2 * r - 1) * (2 * r - 1) + 2 * r + (r - 1 - x)
  else if x = -r then (2 * r - 1) * (2 * r - 1) + 4 * r + (r - 1 - y)
  else (2 * r - 1) * (2 * r - 1) + 6 * r + (x + r - 1)
def okSp (n : Nat) (s : Sp) : Bool :=
  decide (-32 ≤ s.x) && decide (s.x ≤ 32) && decide (-32 ≤ s.y) && decide (s.y ≤ 32) && decide (1 ≤ s.run) && decide (s.run ≤ 100) && decide (0 ≤ s.gone) && decide (s.gone < s.run) && decide (0 ≤ s.turns) && decide (s.turns ≤ 200) && decide (idx s.x s.y = n)
theorem okAll : checkAll okSp 4097 Sp.start 0 = true := by decide +kernel
theorem sp_ok (n : Nat) (h : n ≤ 4096) : okSp n (St n) = true := by
  have := checkAll_at 4097 Sp.start 0 okAll rfl n (by omega)
  rwa [Nat.zero_add] at this
structure SpOk (n : Nat) (s : Sp) : Prop where
  x1 : -32 ≤ s.x
  x2 : s.x ≤ 32
  y1 : -32 ≤ s.y
  y2 : s.y ≤ 32
  r1 : 1 ≤ s.run
  r2 : s.run ≤ 100
  g1 : 0 ≤ s.gone
  g2 : s.gone < s.run
  t1 : 0 ≤ s.turns
  t2 : s.turns ≤ 200
  ix : idx s.x s.y = n
theorem sp (n : Nat) (h : n ≤ 4096) : SpOk n (St n) := by
  have := sp_ok n h
  unfold okSp at this
  simp only [Bool.and_eq_true, decide_eq_true_eq] at this
  obtain ⟨⟨⟨⟨⟨⟨⟨⟨⟨⟨a, b⟩, c⟩, d⟩, e⟩, f⟩, g⟩, i⟩, j⟩, k⟩, l⟩ := this
  exact ⟨a, b, c, d, e, f, g, i, j, k, l⟩
theorem sp_inj {n m : Nat} (hn : n ≤ 4096) (hm : m ≤ 4096) (hx : (St n).x = (St m).x) (hy : (St n).y = (St m).y) : n = m := by
  have a := (sp n hn).ix
  have b := (sp m hm).ix
  rw [hx, hy, b] at a
  omega

end Go.Proofs.Ytnpmadnihheahaa
