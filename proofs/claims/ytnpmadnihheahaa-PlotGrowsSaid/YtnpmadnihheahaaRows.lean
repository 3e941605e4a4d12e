/-
  No cell of these rows narrows 'for every input' (looked for: loops, veiled, ifaces, maps, wideKeys, modest, calm, conditions, laid).
  DERIVED. THE GIVEN ROWS OF THIS SEAT. 8 by the template 'for every input the law returns true; each argument reads behind the call as it read before'; 0 by the template 'total and deterministic' (their statements: YtnpmadnihheahaaTotals.lean).
  GIVEN WITH THE SEED: the statements are not yours to turn. If you find one false, say at which input.
  Laid BY PROGRAM, IN A SANDBOX (cutbox-rows.mjs): the forced cells as the released guide's own fill.sh prints them over the translation d03d2f2026ef15d8… (all of the seat's roots in one cut). By AI agents, Wed Nov 11 2026. No macro, syntax, notation, axiom, sorry.
-/
import Derived.Test.YtnpmadnihheahaaChecked
import GoSem.Claim
import GoSem.ClaimJoined
import GoSem.ClaimMapViews
import Derived.JoinedTies
import Derived.KernelRfl
namespace Go.Proofs.Ytnpmadnihheahaa
/- THE CELL 'sum', in the pinned program and in every row, IS THE sha256 OF THE DUMP (.gsa) THAT YtnpmadnihheahaaProg.lean LOADS. Nothing in Lean hashes anything: it is a label: what it is worth is what the hold of that sum in a sandbox is worth. -/
noncomputable def Try.pinned : Pinned := { name := "ytnpmadnihheahaa", sum := "d03d2f2026ef15d80d36073f82063472e45edca5362c550b0349bc9f780d7f08", checked := Try.checked }
namespace Rows
def none {H : Type} : Left H := { results := [], args := [] }

/-- 'gleaninglaw20.PlotPlaces': WHATEVER THE INPUT: true; the input reads as it did. -/
def plotPlacesSpec : ChangeSpec := { name := "plotPlaces", fn := fun _ => fun
  | [d] => { results := [.lit (.bool true)], args := [d] }
  | _ => none }
def plotPlacesRow : OpenClaim := { program := "ytnpmadnihheahaa", sum := "d03d2f2026ef15d80d36073f82063472e45edca5362c550b0349bc9f780d7f08", func := "gleaning/gleaninglaw20.PlotPlaces", spec := "plotPlaces", unfollowed := true, recurses := true, apart := false }
def PlotPlacesSaid : Prop := plotPlacesRow.holds Try.pinned (OpenSpec.ofChange plotPlacesSpec)

/-- ITS FALSE NEIGHBOUR: 'it returns false'. Refute it at one input. -/
def plotPlacesWrong : ChangeSpec := { name := "plotPlaces", fn := fun _ => fun
  | [d] => { results := [.lit (.bool false)], args := [d] }
  | _ => none }
def PlotPlacesWrongFalsely : Prop := plotPlacesRow.holds Try.pinned (OpenSpec.ofChange plotPlacesWrong)

/-- 'gleaninglaw20.PlotFinds': WHATEVER THE INPUT: true; the input reads as it did. -/
def plotFindsSpec : ChangeSpec := { name := "plotFinds", fn := fun _ => fun
  | [d1, d2, d3, d4] => { results := [.lit (.bool true)], args := [d1, d2, d3, d4] }
  | _ => none }
def plotFindsRow : OpenClaim := { program := "ytnpmadnihheahaa", sum := "d03d2f2026ef15d80d36073f82063472e45edca5362c550b0349bc9f780d7f08", func := "gleaning/gleaninglaw20.PlotFinds", spec := "plotFinds", unfollowed := true, recurses := true, apart := false }
def PlotFindsSaid : Prop := plotFindsRow.holds Try.pinned (OpenSpec.ofChange plotFindsSpec)

/-- ITS FALSE NEIGHBOUR: 'it returns false'. Refute it at one input. -/
def plotFindsWrong : ChangeSpec := { name := "plotFinds", fn := fun _ => fun
  | [d1, d2, d3, d4] => { results := [.lit (.bool false)], args := [d1, d2, d3, d4] }
  | _ => none }
def PlotFindsWrongFalsely : Prop := plotFindsRow.holds Try.pinned (OpenSpec.ofChange plotFindsWrong)

/-- 'gleaninglaw20.PlotSteps': WHATEVER THE INPUT: true; the input reads as it did. -/
def plotStepsSpec : ChangeSpec := { name := "plotSteps", fn := fun _ => fun
  | [d1, d2] => { results := [.lit (.bool true)], args := [d1, d2] }
  | _ => none }
def plotStepsRow : OpenClaim := { program := "ytnpmadnihheahaa", sum := "d03d2f2026ef15d80d36073f82063472e45edca5362c550b0349bc9f780d7f08", func := "gleaning/gleaninglaw20.PlotSteps", spec := "plotSteps", unfollowed := true, recurses := true, apart := false }
def PlotStepsSaid : Prop := plotStepsRow.holds Try.pinned (OpenSpec.ofChange plotStepsSpec)

/-- ITS FALSE NEIGHBOUR: 'it returns false'. Refute it at one input. -/
def plotStepsWrong : ChangeSpec := { name := "plotSteps", fn := fun _ => fun
  | [d1, d2] => { results := [.lit (.bool false)], args := [d1, d2] }
  | _ => none }
def PlotStepsWrongFalsely : Prop := plotStepsRow.holds Try.pinned (OpenSpec.ofChange plotStepsWrong)

/-- 'gleaninglaw20.PlotTurns': WHATEVER THE INPUT: true; the input reads as it did. -/
def plotTurnsSpec : ChangeSpec := { name := "plotTurns", fn := fun _ => fun
  | [d1, d2, d3] => { results := [.lit (.bool true)], args := [d1, d2, d3] }
  | _ => none }
def plotTurnsRow : OpenClaim := { program := "ytnpmadnihheahaa", sum := "d03d2f2026ef15d80d36073f82063472e45edca5362c550b0349bc9f780d7f08", func := "gleaning/gleaninglaw20.PlotTurns", spec := "plotTurns", unfollowed := true, recurses := true, apart := false }
def PlotTurnsSaid : Prop := plotTurnsRow.holds Try.pinned (OpenSpec.ofChange plotTurnsSpec)

/-- ITS FALSE NEIGHBOUR: 'it returns false'. Refute it at one input. -/
def plotTurnsWrong : ChangeSpec := { name := "plotTurns", fn := fun _ => fun
  | [d1, d2, d3] => { results := [.lit (.bool false)], args := [d1, d2, d3] }
  | _ => none }
def PlotTurnsWrongFalsely : Prop := plotTurnsRow.holds Try.pinned (OpenSpec.ofChange plotTurnsWrong)

/-- 'gleaninglaw20.PlotApart': WHATEVER THE INPUT: true; the input reads as it did. -/
def plotApartSpec : ChangeSpec := { name := "plotApart", fn := fun _ => fun
  | [d1, d2, d3, d4] => { results := [.lit (.bool true)], args := [d1, d2, d3, d4] }
  | _ => none }
def plotApartRow : OpenClaim := { program := "ytnpmadnihheahaa", sum := "d03d2f2026ef15d80d36073f82063472e45edca5362c550b0349bc9f780d7f08", func := "gleaning/gleaninglaw20.PlotApart", spec := "plotApart", unfollowed := true, recurses := true, apart := false }
def PlotApartSaid : Prop := plotApartRow.holds Try.pinned (OpenSpec.ofChange plotApartSpec)

/-- ITS FALSE NEIGHBOUR: 'it returns false'. Refute it at one input. -/
def plotApartWrong : ChangeSpec := { name := "plotApart", fn := fun _ => fun
  | [d1, d2, d3, d4] => { results := [.lit (.bool false)], args := [d1, d2, d3, d4] }
  | _ => none }
def PlotApartWrongFalsely : Prop := plotApartRow.holds Try.pinned (OpenSpec.ofChange plotApartWrong)

/-- 'gleaninglaw20.PlotDraws': WHATEVER THE INPUT: true; the input reads as it did. -/
def plotDrawsSpec : ChangeSpec := { name := "plotDraws", fn := fun _ => fun
  | [d] => { results := [.lit (.bool true)], args := [d] }
  | _ => none }
def plotDrawsRow : OpenClaim := { program := "ytnpmadnihheahaa", sum := "d03d2f2026ef15d80d36073f82063472e45edca5362c550b0349bc9f780d7f08", func := "gleaning/gleaninglaw20.PlotDraws", spec := "plotDraws", inPlace := ["internal/abi.NoEscape", "internal/bytealg.MakeNoZero"], unfollowed := true, recurses := true, apart := false }
def PlotDrawsSaid : Prop := plotDrawsRow.holds Try.pinned (OpenSpec.ofChange plotDrawsSpec)

/-- ITS FALSE NEIGHBOUR: 'it returns false'. Refute it at one input. -/
def plotDrawsWrong : ChangeSpec := { name := "plotDraws", fn := fun _ => fun
  | [d] => { results := [.lit (.bool false)], args := [d] }
  | _ => none }
def PlotDrawsWrongFalsely : Prop := plotDrawsRow.holds Try.pinned (OpenSpec.ofChange plotDrawsWrong)

/-- 'gleaninglaw20.PlotLines': WHATEVER THE INPUT: true; the input reads as it did. -/
def plotLinesSpec : ChangeSpec := { name := "plotLines", fn := fun _ => fun
  | [d] => { results := [.lit (.bool true)], args := [d] }
  | _ => none }
def plotLinesRow : OpenClaim := { program := "ytnpmadnihheahaa", sum := "d03d2f2026ef15d80d36073f82063472e45edca5362c550b0349bc9f780d7f08", func := "gleaning/gleaninglaw20.PlotLines", spec := "plotLines", inPlace := ["internal/abi.NoEscape", "internal/bytealg.MakeNoZero"], unfollowed := true, recurses := true, apart := false }
def PlotLinesSaid : Prop := plotLinesRow.holds Try.pinned (OpenSpec.ofChange plotLinesSpec)

/-- ITS FALSE NEIGHBOUR: 'it returns false'. Refute it at one input. -/
def plotLinesWrong : ChangeSpec := { name := "plotLines", fn := fun _ => fun
  | [d] => { results := [.lit (.bool false)], args := [d] }
  | _ => none }
def PlotLinesWrongFalsely : Prop := plotLinesRow.holds Try.pinned (OpenSpec.ofChange plotLinesWrong)

/-- 'gleaninglaw20.PlotGrows': WHATEVER THE INPUT: true; the input reads as it did. -/
def plotGrowsSpec : ChangeSpec := { name := "plotGrows", fn := fun _ => fun
  | [d1, d2] => { results := [.lit (.bool true)], args := [d1, d2] }
  | _ => none }
def plotGrowsRow : OpenClaim := { program := "ytnpmadnihheahaa", sum := "d03d2f2026ef15d80d36073f82063472e45edca5362c550b0349bc9f780d7f08", func := "gleaning/gleaninglaw20.PlotGrows", spec := "plotGrows", inPlace := ["internal/abi.NoEscape", "internal/bytealg.MakeNoZero"], unfollowed := true, recurses := true, apart := false }
def PlotGrowsSaid : Prop := plotGrowsRow.holds Try.pinned (OpenSpec.ofChange plotGrowsSpec)

/-- ITS FALSE NEIGHBOUR: 'it returns false'. Refute it at one input. -/
def plotGrowsWrong : ChangeSpec := { name := "plotGrows", fn := fun _ => fun
  | [d1, d2] => { results := [.lit (.bool false)], args := [d1, d2] }
  | _ => none }
def PlotGrowsWrongFalsely : Prop := plotGrowsRow.holds Try.pinned (OpenSpec.ofChange plotGrowsWrong)

/- THE SECOND FORM. 'bulk': how many values and letters a reading holds, each counted each time it is reached (what is shared counts as often as it is met; a slice's spare places count too). A statement '..UptoSaid' is the law's where the arguments, and the package variables that the reading takes, are together of bulk at most 1048576: NARROWER than '..Said'. Prove '..Said' where nothing that the law and all that it calls make is longer than what came in: it says more and counts as full. Else prove '..UptoSaid'. A law counts once. -/
mutual
def uptoBulk {H : Type} : DataW H → Nat
  | .lit (.string bytes) => bytes.length + 1
  | .lit _ => 1
  | .nil => 1
  | .ptr d => uptoBulk d + 1
  | .slice elems spare => uptoBulkAll elems + uptoBulkAll spare + 1
  | .agg parts => uptoBulkAll parts + 1
  | .iface _ d => uptoBulk d + 1
  | .map entries => uptoBulkEntries entries + 1
  | .held _ => 1
def uptoBulkAll {H : Type} : List (DataW H) → Nat
  | [] => 0
  | d :: r => uptoBulk d + uptoBulkAll r
def uptoBulkEntries {H : Type} : List (Lit × DataW H) → Nat
  | [] => 0
  | x :: r => uptoBulkEntry x + uptoBulkEntries r
def uptoBulkEntry {H : Type} : Lit × DataW H → Nat
  | (.string bytes, d) => bytes.length + uptoBulk d + 1
  | (_, d) => uptoBulk d + 1
 end
def uptoSmall : (H : Type) → List (DataW H) → Bool := fun _ ds => decide (uptoBulkAll ds ≤ 1048576)
def OpenSpec.upto (s : _root_.Go.ChangeSpec) : _root_.Go.OpenSpec := { _root_.Go.OpenSpec.ofChange s with cond := some uptoSmall }

/-- 'gleaninglaw20.PlotPlaces', WHERE WHAT IT READS IS OF BULK AT MOST 1048576: true; the input reads as it did. -/
def plotPlacesUptoRow : OpenClaim := { program := "ytnpmadnihheahaa", sum := "d03d2f2026ef15d80d36073f82063472e45edca5362c550b0349bc9f780d7f08", func := "gleaning/gleaninglaw20.PlotPlaces", spec := "plotPlaces", unfollowed := true, recurses := true, apart := false, narrowed := true }
def PlotPlacesUptoSaid : Prop := plotPlacesUptoRow.holds Try.pinned (OpenSpec.upto plotPlacesSpec)

/-- 'gleaninglaw20.PlotFinds', WHERE WHAT IT READS IS OF BULK AT MOST 1048576: true; the input reads as it did. -/
def plotFindsUptoRow : OpenClaim := { program := "ytnpmadnihheahaa", sum := "d03d2f2026ef15d80d36073f82063472e45edca5362c550b0349bc9f780d7f08", func := "gleaning/gleaninglaw20.PlotFinds", spec := "plotFinds", unfollowed := true, recurses := true, apart := false, narrowed := true }
def PlotFindsUptoSaid : Prop := plotFindsUptoRow.holds Try.pinned (OpenSpec.upto plotFindsSpec)

/-- 'gleaninglaw20.PlotSteps', WHERE WHAT IT READS IS OF BULK AT MOST 1048576: true; the input reads as it did. -/
def plotStepsUptoRow : OpenClaim := { program := "ytnpmadnihheahaa", sum := "d03d2f2026ef15d80d36073f82063472e45edca5362c550b0349bc9f780d7f08", func := "gleaning/gleaninglaw20.PlotSteps", spec := "plotSteps", unfollowed := true, recurses := true, apart := false, narrowed := true }
def PlotStepsUptoSaid : Prop := plotStepsUptoRow.holds Try.pinned (OpenSpec.upto plotStepsSpec)

/-- 'gleaninglaw20.PlotTurns', WHERE WHAT IT READS IS OF BULK AT MOST 1048576: true; the input reads as it did. -/
def plotTurnsUptoRow : OpenClaim := { program := "ytnpmadnihheahaa", sum := "d03d2f2026ef15d80d36073f82063472e45edca5362c550b0349bc9f780d7f08", func := "gleaning/gleaninglaw20.PlotTurns", spec := "plotTurns", unfollowed := true, recurses := true, apart := false, narrowed := true }
def PlotTurnsUptoSaid : Prop := plotTurnsUptoRow.holds Try.pinned (OpenSpec.upto plotTurnsSpec)

/-- 'gleaninglaw20.PlotApart', WHERE WHAT IT READS IS OF BULK AT MOST 1048576: true; the input reads as it did. -/
def plotApartUptoRow : OpenClaim := { program := "ytnpmadnihheahaa", sum := "d03d2f2026ef15d80d36073f82063472e45edca5362c550b0349bc9f780d7f08", func := "gleaning/gleaninglaw20.PlotApart", spec := "plotApart", unfollowed := true, recurses := true, apart := false, narrowed := true }
def PlotApartUptoSaid : Prop := plotApartUptoRow.holds Try.pinned (OpenSpec.upto plotApartSpec)

/-- 'gleaninglaw20.PlotDraws', WHERE WHAT IT READS IS OF BULK AT MOST 1048576: true; the input reads as it did. -/
def plotDrawsUptoRow : OpenClaim := { program := "ytnpmadnihheahaa", sum := "d03d2f2026ef15d80d36073f82063472e45edca5362c550b0349bc9f780d7f08", func := "gleaning/gleaninglaw20.PlotDraws", spec := "plotDraws", inPlace := ["internal/abi.NoEscape", "internal/bytealg.MakeNoZero"], unfollowed := true, recurses := true, apart := false, narrowed := true }
def PlotDrawsUptoSaid : Prop := plotDrawsUptoRow.holds Try.pinned (OpenSpec.upto plotDrawsSpec)

/-- 'gleaninglaw20.PlotLines', WHERE WHAT IT READS IS OF BULK AT MOST 1048576: true; the input reads as it did. -/
def plotLinesUptoRow : OpenClaim := { program := "ytnpmadnihheahaa", sum := "d03d2f2026ef15d80d36073f82063472e45edca5362c550b0349bc9f780d7f08", func := "gleaning/gleaninglaw20.PlotLines", spec := "plotLines", inPlace := ["internal/abi.NoEscape", "internal/bytealg.MakeNoZero"], unfollowed := true, recurses := true, apart := false, narrowed := true }
def PlotLinesUptoSaid : Prop := plotLinesUptoRow.holds Try.pinned (OpenSpec.upto plotLinesSpec)

/-- 'gleaninglaw20.PlotGrows', WHERE WHAT IT READS IS OF BULK AT MOST 1048576: true; the input reads as it did. -/
def plotGrowsUptoRow : OpenClaim := { program := "ytnpmadnihheahaa", sum := "d03d2f2026ef15d80d36073f82063472e45edca5362c550b0349bc9f780d7f08", func := "gleaning/gleaninglaw20.PlotGrows", spec := "plotGrows", inPlace := ["internal/abi.NoEscape", "internal/bytealg.MakeNoZero"], unfollowed := true, recurses := true, apart := false, narrowed := true }
def PlotGrowsUptoSaid : Prop := plotGrowsUptoRow.holds Try.pinned (OpenSpec.upto plotGrowsSpec)

end Rows
end Go.Proofs.Ytnpmadnihheahaa
