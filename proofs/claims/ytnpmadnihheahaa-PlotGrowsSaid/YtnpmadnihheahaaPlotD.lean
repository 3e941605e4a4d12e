/- Drawing the spiral: the box around cells, the grid; plain. Floats that are whole, as integers. -/
import Derived.Test.YtnpmadnihheahaaPlotC
import Derived.Laws.FloatArith
namespace Go.Proofs.Ytnpmadnihheahaa

theorem toInt_all : allI (fun x => floatToIntVal .f64 (fB x) .i64 == some x) (-33) 67 = true := by decide +kernel
theorem toInt (x : Int) (h1 : -33 ≤ x) (h2 : x ≤ 33) : floatToIntVal .f64 (fB x) .i64 = some x := by
  have h := allI_at 67 (-33) x toInt_all h1 (by omega)
  exact beq_iff_eq.1 h

structure Bx where
  l : Int
  r : Int
  d : Int
  u : Int
def mn (x y : Int) : Int := if y < x then y else x
def mx (x y : Int) : Int := if y > x then y else x
def Bx.put (b : Bx) (x y : Int) : Bx := ⟨mn b.l x, mx b.r x, mn b.d y, mx b.u y⟩
def bxN : Nat → Bx
  | 0 => ⟨0, 0, 0, 0⟩
  | k + 1 => (bxN k).put (St k).x (St k).y
structure BxOk (b : Bx) : Prop where
  l1 : -32 ≤ b.l
  l2 : b.l ≤ 0
  r1 : 0 ≤ b.r
  r2 : b.r ≤ 32
  d1 : -32 ≤ b.d
  d2 : b.d ≤ 0
  u1 : 0 ≤ b.u
  u2 : b.u ≤ 32
theorem bx_ok : ∀ k, k ≤ 4097 → BxOk (bxN k)
  | 0, _ => ⟨by decide, by decide, by decide, by decide, by decide, by decide, by decide, by decide⟩
  | k + 1, h => by
    have b := bx_ok k (by omega)
    have s := sp k (by omega)
    obtain ⟨a1, a2, a3, a4, a5, a6, a7, a8⟩ := b
    obtain ⟨b1, b2, b3, b4, _⟩ := s
    have key : ∀ (b : Bx) (x y : Int), BxOk b → -32 ≤ x → x ≤ 32 → -32 ≤ y → y ≤ 32 → BxOk (b.put x y) := by
      intro b x y ⟨_, _, _, _, _, _, _, _⟩ _ _ _ _
      unfold Bx.put mn mx
      constructor <;> dsimp only <;> split <;> omega
    exact key _ _ _ ⟨a1, a2, a3, a4, a5, a6, a7, a8⟩ b1 b2 b3 b4
theorem bx_in {j : Nat} : ∀ {k : Nat}, j < k → (bxN k).l ≤ (St j).x ∧ (St j).x ≤ (bxN k).r ∧ (bxN k).d ≤ (St j).y ∧ (St j).y ≤ (bxN k).u
  | k + 1, h => by
    have key : ∀ (b : Bx) (x y x' y' : Int), (b.l ≤ x' ∧ x' ≤ b.r ∧ b.d ≤ y' ∧ y' ≤ b.u) ∨ (x' = x ∧ y' = y) → ((b.put x y).l ≤ x' ∧ x' ≤ (b.put x y).r ∧ (b.put x y).d ≤ y' ∧ y' ≤ (b.put x y).u) := by
      intro b x y x' y' h
      unfold Bx.put mn mx
      dsimp only
      refine ⟨?_, ?_, ?_, ?_⟩ <;> split <;> omega
    rcases (by omega : j < k ∨ j = k) with h' | rfl
    · exact key _ _ _ _ _ (.inl (bx_in h'))
    · exact key _ _ _ _ _ (.inr ⟨rfl, rfl⟩)

/-- The byte at a place when k cells were laid. -/
def gN (s : Nat → Int) (X Y : Int) : Nat → Int
  | 0 => 32
  | k + 1 => if (St k).x = X ∧ (St k).y = Y then s k else gN s X Y k
def wid (b : Bx) : Nat := (b.r - b.l + 1).toNat
def hei (b : Bx) : Nat := (b.u - b.d + 1).toNat
def row (s : Nat → Int) (n : Nat) (b : Bx) (r : Nat) : List Int := (List.range (wid b)).map fun c => gN s (b.l + (c : Nat)) (b.u - (r : Nat)) n

end Go.Proofs.Ytnpmadnihheahaa
