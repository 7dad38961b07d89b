/-
  No cell of these rows narrows 'for every input' (looked for: loops, veiled, ifaces, maps, wideKeys, modest, calm, conditions, laid).
  DERIVED. THE GIVEN ROWS OF THIS SEAT. 6 by the template 'for every input the law returns true; each argument reads behind the call as it read before'; 0 by the template 'total and deterministic' (their statements: YtcbncfaldafpeaaGreatTotals.lean).
  GIVEN WITH THE SEED: the statements are not yours to turn. If you find one false, say at which input.
  Laid BY PROGRAM, IN A SANDBOX (cutbox-rows.mjs): the forced cells as the released guide's own fill.sh prints them over the translation eca9c90611996194… (all of the seat's roots in one cut). By AI agents, Wed Nov 11 2026. No macro, syntax, notation, axiom, sorry.
-/
import Derived.Test.YtcbncfaldafpeaaGreatChecked
import GoSem.Claim
import GoSem.ClaimJoined
import GoSem.ClaimMapViews
import Derived.JoinedTies
import Derived.KernelRfl
namespace Go.Proofs.YtcbncfaldafpeaaGreat
/- THE CELL 'sum', in the pinned program and in every row, IS THE sha256 OF THE DUMP (.gsa) THAT YtcbncfaldafpeaaGreatProg.lean LOADS. Nothing in Lean hashes anything: it is a label: what it is worth is what the hold of that sum in a sandbox is worth. -/
noncomputable def Tryz.pinned : Pinned := { name := "ytcbncfaldafpeaagreat", sum := "eca9c90611996194ceeb461827406af4d3ce6c90af1e558bb07dc37130bfe4c3", checked := Tryz.checked }
namespace Rows
def none {H : Type} : Left H := { results := [], args := [] }

/-- 'tracerylaw18.HistFull': WHATEVER THE INPUT: true; the input reads as it did. -/
def histFullSpec : ChangeSpec := { name := "histFull", fn := fun _ => fun
  | [d1, d2] => { results := [.lit (.bool true)], args := [d1, d2] }
  | _ => none }
def histFullRow : OpenClaim := { program := "ytcbncfaldafpeaagreat", sum := "eca9c90611996194ceeb461827406af4d3ce6c90af1e558bb07dc37130bfe4c3", func := "tracery/tracerylaw18.HistFull", spec := "histFull", inPlace := ["slices.overlaps[tracery/api.Vertex]", "slices.overlaps[tracery/api.Edge]", "slices.overlaps[tracery/api.Gone]"], unfollowed := true, recurses := true, plainKeys := false, apart := false }
def HistFullSaid : Prop := histFullRow.holds Tryz.pinned (OpenSpec.ofChange histFullSpec)

/-- ITS FALSE NEIGHBOUR: 'it returns false'. Refute it at one input. -/
def histFullWrong : ChangeSpec := { name := "histFull", fn := fun _ => fun
  | [d1, d2] => { results := [.lit (.bool false)], args := [d1, d2] }
  | _ => none }
def HistFullWrongFalsely : Prop := histFullRow.holds Tryz.pinned (OpenSpec.ofChange histFullWrong)

/-- 'tracerylaw18.HistParts': WHATEVER THE INPUT: true; the input reads as it did. -/
def histPartsSpec : ChangeSpec := { name := "histParts", fn := fun _ => fun
  | [d1, d2, d3] => { results := [.lit (.bool true)], args := [d1, d2, d3] }
  | _ => none }
def histPartsRow : OpenClaim := { program := "ytcbncfaldafpeaagreat", sum := "eca9c90611996194ceeb461827406af4d3ce6c90af1e558bb07dc37130bfe4c3", func := "tracery/tracerylaw18.HistParts", spec := "histParts", inPlace := ["slices.overlaps[tracery/api.Vertex]", "slices.overlaps[tracery/api.Edge]", "slices.overlaps[tracery/api.Gone]"], unfollowed := true, recurses := true, plainKeys := false, apart := false }
def HistPartsSaid : Prop := histPartsRow.holds Tryz.pinned (OpenSpec.ofChange histPartsSpec)

/-- ITS FALSE NEIGHBOUR: 'it returns false'. Refute it at one input. -/
def histPartsWrong : ChangeSpec := { name := "histParts", fn := fun _ => fun
  | [d1, d2, d3] => { results := [.lit (.bool false)], args := [d1, d2, d3] }
  | _ => none }
def HistPartsWrongFalsely : Prop := histPartsRow.holds Tryz.pinned (OpenSpec.ofChange histPartsWrong)

/-- 'tracerylaw18.HistPlays': WHATEVER THE INPUT: true; the input reads as it did. -/
def histPlaysSpec : ChangeSpec := { name := "histPlays", fn := fun _ => fun
  | [d1, d2] => { results := [.lit (.bool true)], args := [d1, d2] }
  | _ => none }
def histPlaysRow : OpenClaim := { program := "ytcbncfaldafpeaagreat", sum := "eca9c90611996194ceeb461827406af4d3ce6c90af1e558bb07dc37130bfe4c3", func := "tracery/tracerylaw18.HistPlays", spec := "histPlays", inPlace := ["slices.overlaps[tracery/api.Vertex]", "slices.overlaps[tracery/api.Edge]", "slices.overlaps[tracery/api.Gone]"], unfollowed := true, recurses := true, plainKeys := false, apart := false }
def HistPlaysSaid : Prop := histPlaysRow.holds Tryz.pinned (OpenSpec.ofChange histPlaysSpec)

/-- ITS FALSE NEIGHBOUR: 'it returns false'. Refute it at one input. -/
def histPlaysWrong : ChangeSpec := { name := "histPlays", fn := fun _ => fun
  | [d1, d2] => { results := [.lit (.bool false)], args := [d1, d2] }
  | _ => none }
def HistPlaysWrongFalsely : Prop := histPlaysRow.holds Tryz.pinned (OpenSpec.ofChange histPlaysWrong)

/-- 'tracerylaw18.HistSnaps': WHATEVER THE INPUT: true; the input reads as it did. -/
def histSnapsSpec : ChangeSpec := { name := "histSnaps", fn := fun _ => fun
  | [d1, d2, d3] => { results := [.lit (.bool true)], args := [d1, d2, d3] }
  | _ => none }
def histSnapsRow : OpenClaim := { program := "ytcbncfaldafpeaagreat", sum := "eca9c90611996194ceeb461827406af4d3ce6c90af1e558bb07dc37130bfe4c3", func := "tracery/tracerylaw18.HistSnaps", spec := "histSnaps", inPlace := ["slices.overlaps[tracery/api.Vertex]", "slices.overlaps[tracery/api.Edge]", "slices.overlaps[tracery/api.Gone]"], unfollowed := true, recurses := true, plainKeys := false, apart := false }
def HistSnapsSaid : Prop := histSnapsRow.holds Tryz.pinned (OpenSpec.ofChange histSnapsSpec)

/-- ITS FALSE NEIGHBOUR: 'it returns false'. Refute it at one input. -/
def histSnapsWrong : ChangeSpec := { name := "histSnaps", fn := fun _ => fun
  | [d1, d2, d3] => { results := [.lit (.bool false)], args := [d1, d2, d3] }
  | _ => none }
def HistSnapsWrongFalsely : Prop := histSnapsRow.holds Tryz.pinned (OpenSpec.ofChange histSnapsWrong)

/-- 'tracerylaw18.HistSnapBack': WHATEVER THE INPUT: true; the input reads as it did. -/
def histSnapBackSpec : ChangeSpec := { name := "histSnapBack", fn := fun _ => fun
  | [d1, d2, d3] => { results := [.lit (.bool true)], args := [d1, d2, d3] }
  | _ => none }
def histSnapBackRow : OpenClaim := { program := "ytcbncfaldafpeaagreat", sum := "eca9c90611996194ceeb461827406af4d3ce6c90af1e558bb07dc37130bfe4c3", func := "tracery/tracerylaw18.HistSnapBack", spec := "histSnapBack", inPlace := ["slices.overlaps[tracery/api.Vertex]", "slices.overlaps[tracery/api.Edge]", "slices.overlaps[tracery/api.Gone]"], unfollowed := true, recurses := true, plainKeys := false, apart := false }
def HistSnapBackSaid : Prop := histSnapBackRow.holds Tryz.pinned (OpenSpec.ofChange histSnapBackSpec)

/-- ITS FALSE NEIGHBOUR: 'it returns false'. Refute it at one input. -/
def histSnapBackWrong : ChangeSpec := { name := "histSnapBack", fn := fun _ => fun
  | [d1, d2, d3] => { results := [.lit (.bool false)], args := [d1, d2, d3] }
  | _ => none }
def HistSnapBackWrongFalsely : Prop := histSnapBackRow.holds Tryz.pinned (OpenSpec.ofChange histSnapBackWrong)

/-- 'tracerylaw18.HistMoves': WHATEVER THE INPUT: true; the input reads as it did. -/
def histMovesSpec : ChangeSpec := { name := "histMoves", fn := fun _ => fun
  | [d1, d2] => { results := [.lit (.bool true)], args := [d1, d2] }
  | _ => none }
def histMovesRow : OpenClaim := { program := "ytcbncfaldafpeaagreat", sum := "eca9c90611996194ceeb461827406af4d3ce6c90af1e558bb07dc37130bfe4c3", func := "tracery/tracerylaw18.HistMoves", spec := "histMoves", inPlace := ["slices.overlaps[tracery/api.Vertex]", "slices.overlaps[tracery/api.Edge]", "slices.overlaps[tracery/api.Gone]"], unfollowed := true, recurses := true, plainKeys := false, apart := false }
def HistMovesSaid : Prop := histMovesRow.holds Tryz.pinned (OpenSpec.ofChange histMovesSpec)

/-- ITS FALSE NEIGHBOUR: 'it returns false'. Refute it at one input. -/
def histMovesWrong : ChangeSpec := { name := "histMoves", fn := fun _ => fun
  | [d1, d2] => { results := [.lit (.bool false)], args := [d1, d2] }
  | _ => none }
def HistMovesWrongFalsely : Prop := histMovesRow.holds Tryz.pinned (OpenSpec.ofChange histMovesWrong)

/- THE SECOND FORM. 'bulk': how many values and letters a reading holds, each counted each time it is reached (what is shared counts as often as it is met; a slice's spare places count too). A statement '..UptoSaid' is the law's where the arguments, and the package variables that the reading takes, are together of bulk at most 1048576: NARROWER than '..Said'. Prove '..Said' where nothing that the law and all that it calls make is longer than what came in: it says more and counts as full. Else prove '..UptoSaid'. A law counts once. -/
mutual
def uptoBulk {H : Type} : DataW H → Nat
  | .lit (.string bytes) => bytes.length + 1
  | .lit _ => 1
  | .nil => 1
  | .ptr d => uptoBulk d + 1
  | .slice elems spare => uptoBulkAll elems + uptoBulkAll spare + 1
  | .agg parts => uptoBulkAll parts + 1
  | .iface _ d => uptoBulk d + 1
  | .map entries => uptoBulkEntries entries + 1
  | .held _ => 1
def uptoBulkAll {H : Type} : List (DataW H) → Nat
  | [] => 0
  | d :: r => uptoBulk d + uptoBulkAll r
def uptoBulkEntries {H : Type} : List (Lit × DataW H) → Nat
  | [] => 0
  | x :: r => uptoBulkEntry x + uptoBulkEntries r
def uptoBulkEntry {H : Type} : Lit × DataW H → Nat
  | (.string bytes, d) => bytes.length + uptoBulk d + 1
  | (_, d) => uptoBulk d + 1
 end
def uptoSmall : (H : Type) → List (DataW H) → Bool := fun _ ds => decide (uptoBulkAll ds ≤ 1048576)
def OpenSpec.upto (s : _root_.Go.ChangeSpec) : _root_.Go.OpenSpec := { _root_.Go.OpenSpec.ofChange s with cond := some uptoSmall }

/-- 'tracerylaw18.HistFull', WHERE WHAT IT READS IS OF BULK AT MOST 1048576: true; the input reads as it did. -/
def histFullUptoRow : OpenClaim := { program := "ytcbncfaldafpeaagreat", sum := "eca9c90611996194ceeb461827406af4d3ce6c90af1e558bb07dc37130bfe4c3", func := "tracery/tracerylaw18.HistFull", spec := "histFull", inPlace := ["slices.overlaps[tracery/api.Vertex]", "slices.overlaps[tracery/api.Edge]", "slices.overlaps[tracery/api.Gone]"], unfollowed := true, recurses := true, plainKeys := false, apart := false, narrowed := true }
def HistFullUptoSaid : Prop := histFullUptoRow.holds Tryz.pinned (OpenSpec.upto histFullSpec)

/-- 'tracerylaw18.HistParts', WHERE WHAT IT READS IS OF BULK AT MOST 1048576: true; the input reads as it did. -/
def histPartsUptoRow : OpenClaim := { program := "ytcbncfaldafpeaagreat", sum := "eca9c90611996194ceeb461827406af4d3ce6c90af1e558bb07dc37130bfe4c3", func := "tracery/tracerylaw18.HistParts", spec := "histParts", inPlace := ["slices.overlaps[tracery/api.Vertex]", "slices.overlaps[tracery/api.Edge]", "slices.overlaps[tracery/api.Gone]"], unfollowed := true, recurses := true, plainKeys := false, apart := false, narrowed := true }
def HistPartsUptoSaid : Prop := histPartsUptoRow.holds Tryz.pinned (OpenSpec.upto histPartsSpec)

/-- 'tracerylaw18.HistPlays', WHERE WHAT IT READS IS OF BULK AT MOST 1048576: true; the input reads as it did. -/
def histPlaysUptoRow : OpenClaim := { program := "ytcbncfaldafpeaagreat", sum := "eca9c90611996194ceeb461827406af4d3ce6c90af1e558bb07dc37130bfe4c3", func := "tracery/tracerylaw18.HistPlays", spec := "histPlays", inPlace := ["slices.overlaps[tracery/api.Vertex]", "slices.overlaps[tracery/api.Edge]", "slices.overlaps[tracery/api.Gone]"], unfollowed := true, recurses := true, plainKeys := false, apart := false, narrowed := true }
def HistPlaysUptoSaid : Prop := histPlaysUptoRow.holds Tryz.pinned (OpenSpec.upto histPlaysSpec)

/-- 'tracerylaw18.HistSnaps', WHERE WHAT IT READS IS OF BULK AT MOST 1048576: true; the input reads as it did. -/
def histSnapsUptoRow : OpenClaim := { program := "ytcbncfaldafpeaagreat", sum := "eca9c90611996194ceeb461827406af4d3ce6c90af1e558bb07dc37130bfe4c3", func := "tracery/tracerylaw18.HistSnaps", spec := "histSnaps", inPlace := ["slices.overlaps[tracery/api.Vertex]", "slices.overlaps[tracery/api.Edge]", "slices.overlaps[tracery/api.Gone]"], unfollowed := true, recurses := true, plainKeys := false, apart := false, narrowed := true }
def HistSnapsUptoSaid : Prop := histSnapsUptoRow.holds Tryz.pinned (OpenSpec.upto histSnapsSpec)

/-- 'tracerylaw18.HistSnapBack', WHERE WHAT IT READS IS OF BULK AT MOST 1048576: true; the input reads as it did. -/
def histSnapBackUptoRow : OpenClaim := { program := "ytcbncfaldafpeaagreat", sum := "eca9c90611996194ceeb461827406af4d3ce6c90af1e558bb07dc37130bfe4c3", func := "tracery/tracerylaw18.HistSnapBack", spec := "histSnapBack", inPlace := ["slices.overlaps[tracery/api.Vertex]", "slices.overlaps[tracery/api.Edge]", "slices.overlaps[tracery/api.Gone]"], unfollowed := true, recurses := true, plainKeys := false, apart := false, narrowed := true }
def HistSnapBackUptoSaid : Prop := histSnapBackUptoRow.holds Tryz.pinned (OpenSpec.upto histSnapBackSpec)

/-- 'tracerylaw18.HistMoves', WHERE WHAT IT READS IS OF BULK AT MOST 1048576: true; the input reads as it did. -/
def histMovesUptoRow : OpenClaim := { program := "ytcbncfaldafpeaagreat", sum := "eca9c90611996194ceeb461827406af4d3ce6c90af1e558bb07dc37130bfe4c3", func := "tracery/tracerylaw18.HistMoves", spec := "histMoves", inPlace := ["slices.overlaps[tracery/api.Vertex]", "slices.overlaps[tracery/api.Edge]", "slices.overlaps[tracery/api.Gone]"], unfollowed := true, recurses := true, plainKeys := false, apart := false, narrowed := true }
def HistMovesUptoSaid : Prop := histMovesUptoRow.holds Tryz.pinned (OpenSpec.upto histMovesSpec)

end Rows
end Go.Proofs.YtcbncfaldafpeaaGreat
