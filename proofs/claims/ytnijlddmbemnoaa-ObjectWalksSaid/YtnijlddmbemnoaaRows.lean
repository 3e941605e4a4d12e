/-
  No cell of these rows narrows 'for every input' (looked for: loops, veiled, ifaces, maps, wideKeys, modest, calm, conditions, laid).
  DERIVED. THE GIVEN ROWS OF THIS SEAT. 5 by the template 'for every input the law returns true; each argument reads behind the call as it read before'; 0 by the template 'total and deterministic' (their statements: YtnijlddmbemnoaaTotals.lean).
  GIVEN WITH THE SEED: the statements are not yours to turn. If you find one false, say at which input.
  Laid BY PROGRAM, IN A SANDBOX (cutbox-rows.mjs): the forced cells as the released guide's own fill.sh prints them over the translation fa870d17fef44e51… (all of the seat's roots in one cut). By AI agents, Wed Nov 11 2026. No macro, syntax, notation, axiom, sorry.
-/
import Derived.Test.YtnijlddmbemnoaaChecked
import GoSem.Claim
import GoSem.ClaimJoined
import GoSem.ClaimMapViews
import Derived.JoinedTies
import Derived.KernelRfl
namespace Go.Proofs.Ytnijlddmbemnoaa
/- THE CELL 'sum', in the pinned program and in every row, IS THE sha256 OF THE DUMP (.gsa) THAT YtnijlddmbemnoaaProg.lean LOADS. Nothing in Lean hashes anything: it is a label: what it is worth is what the hold of that sum in a sandbox is worth. -/
noncomputable def Try.pinned : Pinned := { name := "ytnijlddmbemnoaa", sum := "fa870d17fef44e5111eabe79fc1c647fb018d00ef9f3348a1ef248a23eb8c524", checked := Try.checked }
namespace Rows
def none {H : Type} : Left H := { results := [], args := [] }

/-- 'gleaninglaw06.ObjectNil': WHATEVER THE INPUT: true; the input reads as it did. -/
def objectNilSpec : ChangeSpec := { name := "objectNil", fn := fun _ => fun
  | [d1, d2] => { results := [.lit (.bool true)], args := [d1, d2] }
  | _ => none }
def objectNilRow : OpenClaim := { program := "ytnijlddmbemnoaa", sum := "fa870d17fef44e5111eabe79fc1c647fb018d00ef9f3348a1ef248a23eb8c524", func := "gleaning/gleaninglaw06.ObjectNil", spec := "objectNil", unfollowed := true, recurses := true, apart := false }
def ObjectNilSaid : Prop := objectNilRow.holds Try.pinned (OpenSpec.ofChange objectNilSpec)

/-- ITS FALSE NEIGHBOUR: 'it returns false'. Refute it at one input. -/
def objectNilWrong : ChangeSpec := { name := "objectNil", fn := fun _ => fun
  | [d1, d2] => { results := [.lit (.bool false)], args := [d1, d2] }
  | _ => none }
def ObjectNilWrongFalsely : Prop := objectNilRow.holds Try.pinned (OpenSpec.ofChange objectNilWrong)

/-- 'gleaninglaw06.ObjectLays': WHATEVER THE INPUT: true; the input reads as it did. -/
def objectLaysSpec : ChangeSpec := { name := "objectLays", fn := fun _ => fun
  | [d1, d2, d3, d4] => { results := [.lit (.bool true)], args := [d1, d2, d3, d4] }
  | _ => none }
def objectLaysRow : OpenClaim := { program := "ytnijlddmbemnoaa", sum := "fa870d17fef44e5111eabe79fc1c647fb018d00ef9f3348a1ef248a23eb8c524", func := "gleaning/gleaninglaw06.ObjectLays", spec := "objectLays", unfollowed := true, recurses := true, apart := false }
def ObjectLaysSaid : Prop := objectLaysRow.holds Try.pinned (OpenSpec.ofChange objectLaysSpec)

/-- ITS FALSE NEIGHBOUR: 'it returns false'. Refute it at one input. -/
def objectLaysWrong : ChangeSpec := { name := "objectLays", fn := fun _ => fun
  | [d1, d2, d3, d4] => { results := [.lit (.bool false)], args := [d1, d2, d3, d4] }
  | _ => none }
def ObjectLaysWrongFalsely : Prop := objectLaysRow.holds Try.pinned (OpenSpec.ofChange objectLaysWrong)

/-- 'gleaninglaw06.ObjectFields': WHATEVER THE INPUT: true; the input reads as it did. -/
def objectFieldsSpec : ChangeSpec := { name := "objectFields", fn := fun _ => fun
  | [d1, d2, d3, d4, d5] => { results := [.lit (.bool true)], args := [d1, d2, d3, d4, d5] }
  | _ => none }
def objectFieldsRow : OpenClaim := { program := "ytnijlddmbemnoaa", sum := "fa870d17fef44e5111eabe79fc1c647fb018d00ef9f3348a1ef248a23eb8c524", func := "gleaning/gleaninglaw06.ObjectFields", spec := "objectFields", unfollowed := true, recurses := true, apart := false }
def ObjectFieldsSaid : Prop := objectFieldsRow.holds Try.pinned (OpenSpec.ofChange objectFieldsSpec)

/-- ITS FALSE NEIGHBOUR: 'it returns false'. Refute it at one input. -/
def objectFieldsWrong : ChangeSpec := { name := "objectFields", fn := fun _ => fun
  | [d1, d2, d3, d4, d5] => { results := [.lit (.bool false)], args := [d1, d2, d3, d4, d5] }
  | _ => none }
def ObjectFieldsWrongFalsely : Prop := objectFieldsRow.holds Try.pinned (OpenSpec.ofChange objectFieldsWrong)

/-- 'gleaninglaw06.ObjectGaps': WHATEVER THE INPUT: true; the input reads as it did. -/
def objectGapsSpec : ChangeSpec := { name := "objectGaps", fn := fun _ => fun
  | [d1, d2] => { results := [.lit (.bool true)], args := [d1, d2] }
  | _ => none }
def objectGapsRow : OpenClaim := { program := "ytnijlddmbemnoaa", sum := "fa870d17fef44e5111eabe79fc1c647fb018d00ef9f3348a1ef248a23eb8c524", func := "gleaning/gleaninglaw06.ObjectGaps", spec := "objectGaps", unfollowed := true, recurses := true, apart := false }
def ObjectGapsSaid : Prop := objectGapsRow.holds Try.pinned (OpenSpec.ofChange objectGapsSpec)

/-- ITS FALSE NEIGHBOUR: 'it returns false'. Refute it at one input. -/
def objectGapsWrong : ChangeSpec := { name := "objectGaps", fn := fun _ => fun
  | [d1, d2] => { results := [.lit (.bool false)], args := [d1, d2] }
  | _ => none }
def ObjectGapsWrongFalsely : Prop := objectGapsRow.holds Try.pinned (OpenSpec.ofChange objectGapsWrong)

/-- 'gleaninglaw06.ObjectWalks': WHATEVER THE INPUT: true; the input reads as it did. -/
def objectWalksSpec : ChangeSpec := { name := "objectWalks", fn := fun _ => fun
  | [d1, d2, d3] => { results := [.lit (.bool true)], args := [d1, d2, d3] }
  | _ => none }
def objectWalksRow : OpenClaim := { program := "ytnijlddmbemnoaa", sum := "fa870d17fef44e5111eabe79fc1c647fb018d00ef9f3348a1ef248a23eb8c524", func := "gleaning/gleaninglaw06.ObjectWalks", spec := "objectWalks", unfollowed := true, recurses := true, apart := false }
def ObjectWalksSaid : Prop := objectWalksRow.holds Try.pinned (OpenSpec.ofChange objectWalksSpec)

/-- ITS FALSE NEIGHBOUR: 'it returns false'. Refute it at one input. -/
def objectWalksWrong : ChangeSpec := { name := "objectWalks", fn := fun _ => fun
  | [d1, d2, d3] => { results := [.lit (.bool false)], args := [d1, d2, d3] }
  | _ => none }
def ObjectWalksWrongFalsely : Prop := objectWalksRow.holds Try.pinned (OpenSpec.ofChange objectWalksWrong)

/- THE SECOND FORM. 'bulk': how many values and letters a reading holds, each counted each time it is reached (what is shared counts as often as it is met; a slice's spare places count too). A statement '..UptoSaid' is the law's where the arguments, and the package variables that the reading takes, are together of bulk at most 1048576: NARROWER than '..Said'. Prove '..Said' where nothing that the law and all that it calls make is longer than what came in: it says more and counts as full. Else prove '..UptoSaid'. A law counts once. -/
mutual
def uptoBulk {H : Type} : DataW H → Nat
  | .lit (.string bytes) => bytes.length + 1
  | .lit _ => 1
  | .nil => 1
  | .ptr d => uptoBulk d + 1
  | .slice elems spare => uptoBulkAll elems + uptoBulkAll spare + 1
  | .agg parts => uptoBulkAll parts + 1
  | .iface _ d => uptoBulk d + 1
  | .map entries => uptoBulkEntries entries + 1
  | .held _ => 1
def uptoBulkAll {H : Type} : List (DataW H) → Nat
  | [] => 0
  | d :: r => uptoBulk d + uptoBulkAll r
def uptoBulkEntries {H : Type} : List (Lit × DataW H) → Nat
  | [] => 0
  | x :: r => uptoBulkEntry x + uptoBulkEntries r
def uptoBulkEntry {H : Type} : Lit × DataW H → Nat
  | (.string bytes, d) => bytes.length + uptoBulk d + 1
  | (_, d) => uptoBulk d + 1
 end
def uptoSmall : (H : Type) → List (DataW H) → Bool := fun _ ds => decide (uptoBulkAll ds ≤ 1048576)
def OpenSpec.upto (s : _root_.Go.ChangeSpec) : _root_.Go.OpenSpec := { _root_.Go.OpenSpec.ofChange s with cond := some uptoSmall }

/-- 'gleaninglaw06.ObjectNil', WHERE WHAT IT READS IS OF BULK AT MOST 1048576: true; the input reads as it did. -/
def objectNilUptoRow : OpenClaim := { program := "ytnijlddmbemnoaa", sum := "fa870d17fef44e5111eabe79fc1c647fb018d00ef9f3348a1ef248a23eb8c524", func := "gleaning/gleaninglaw06.ObjectNil", spec := "objectNil", unfollowed := true, recurses := true, apart := false, narrowed := true }
def ObjectNilUptoSaid : Prop := objectNilUptoRow.holds Try.pinned (OpenSpec.upto objectNilSpec)

/-- 'gleaninglaw06.ObjectLays', WHERE WHAT IT READS IS OF BULK AT MOST 1048576: true; the input reads as it did. -/
def objectLaysUptoRow : OpenClaim := { program := "ytnijlddmbemnoaa", sum := "fa870d17fef44e5111eabe79fc1c647fb018d00ef9f3348a1ef248a23eb8c524", func := "gleaning/gleaninglaw06.ObjectLays", spec := "objectLays", unfollowed := true, recurses := true, apart := false, narrowed := true }
def ObjectLaysUptoSaid : Prop := objectLaysUptoRow.holds Try.pinned (OpenSpec.upto objectLaysSpec)

/-- 'gleaninglaw06.ObjectFields', WHERE WHAT IT READS IS OF BULK AT MOST 1048576: true; the input reads as it did. -/
def objectFieldsUptoRow : OpenClaim := { program := "ytnijlddmbemnoaa", sum := "fa870d17fef44e5111eabe79fc1c647fb018d00ef9f3348a1ef248a23eb8c524", func := "gleaning/gleaninglaw06.ObjectFields", spec := "objectFields", unfollowed := true, recurses := true, apart := false, narrowed := true }
def ObjectFieldsUptoSaid : Prop := objectFieldsUptoRow.holds Try.pinned (OpenSpec.upto objectFieldsSpec)

/-- 'gleaninglaw06.ObjectGaps', WHERE WHAT IT READS IS OF BULK AT MOST 1048576: true; the input reads as it did. -/
def objectGapsUptoRow : OpenClaim := { program := "ytnijlddmbemnoaa", sum := "fa870d17fef44e5111eabe79fc1c647fb018d00ef9f3348a1ef248a23eb8c524", func := "gleaning/gleaninglaw06.ObjectGaps", spec := "objectGaps", unfollowed := true, recurses := true, apart := false, narrowed := true }
def ObjectGapsUptoSaid : Prop := objectGapsUptoRow.holds Try.pinned (OpenSpec.upto objectGapsSpec)

/-- 'gleaninglaw06.ObjectWalks', WHERE WHAT IT READS IS OF BULK AT MOST 1048576: true; the input reads as it did. -/
def objectWalksUptoRow : OpenClaim := { program := "ytnijlddmbemnoaa", sum := "fa870d17fef44e5111eabe79fc1c647fb018d00ef9f3348a1ef248a23eb8c524", func := "gleaning/gleaninglaw06.ObjectWalks", spec := "objectWalks", unfollowed := true, recurses := true, apart := false, narrowed := true }
def ObjectWalksUptoSaid : Prop := objectWalksUptoRow.holds Try.pinned (OpenSpec.upto objectWalksSpec)

end Rows
end Go.Proofs.Ytnijlddmbemnoaa
