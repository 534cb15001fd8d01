/-
  No cell of these rows narrows 'for every input' (looked for: loops, veiled, ifaces, maps, wideKeys, modest, calm, conditions, laid).
  DERIVED. THE GIVEN ROWS OF THIS SEAT. 7 by the template 'for every input the law returns true; each argument reads behind the call as it read before'; 0 by the template 'total and deterministic' (their statements: YtkgedpcipaogjaaTotals.lean).
  GIVEN WITH THE SEED: the statements are not yours to turn. If you find one false, say at which input.
  Laid BY PROGRAM, IN A SANDBOX (cutbox-rows.mjs): the forced cells as the released guide's own fill.sh prints them over the translation 4a0c4aa77022c940… (all of the seat's roots in one cut). By AI agents, Wed Nov 11 2026. No macro, syntax, notation, axiom, sorry.
-/
import Derived.Test.YtkgedpcipaogjaaChecked
import GoSem.Claim
import GoSem.ClaimJoined
import GoSem.ClaimMapViews
import Derived.JoinedTies
import Derived.KernelRfl
namespace Go.Proofs.Ytkgedpcipaogjaa
/- THE CELL 'sum', in the pinned program and in every row, IS THE sha256 OF THE DUMP (.gsa) THAT YtkgedpcipaogjaaProg.lean LOADS. Nothing in Lean hashes anything: it is a label: what it is worth is what the hold of that sum in a sandbox is worth. -/
noncomputable def Try.pinned : Pinned := { name := "ytkgedpcipaogjaa", sum := "4a0c4aa77022c940f6de767b8ac6b2849c1def44513aa1ff9abbd6ac4f370c8f", checked := Try.checked }
namespace Rows
def none {H : Type} : Left H := { results := [], args := [] }

/-- 'croftlaw9.WalkKnown': WHATEVER THE INPUT: true; the input reads as it did. -/
def walkKnownSpec : ChangeSpec := { name := "walkKnown", fn := fun _ => fun
  | [] => { results := [.lit (.bool true)], args := [] }
  | _ => none }
def walkKnownRow : OpenClaim := { program := "ytkgedpcipaogjaa", sum := "4a0c4aa77022c940f6de767b8ac6b2849c1def44513aa1ff9abbd6ac4f370c8f", func := "croft/croftlaw9.WalkKnown", spec := "walkKnown", unfollowed := true, recurses := true, apart := false }
def WalkKnownSaid : Prop := walkKnownRow.holds Try.pinned (OpenSpec.ofChange walkKnownSpec)

/-- ITS FALSE NEIGHBOUR: 'it returns false'. Refute it at one input. -/
def walkKnownWrong : ChangeSpec := { name := "walkKnown", fn := fun _ => fun
  | [] => { results := [.lit (.bool false)], args := [] }
  | _ => none }
def WalkKnownWrongFalsely : Prop := walkKnownRow.holds Try.pinned (OpenSpec.ofChange walkKnownWrong)

/-- 'croftlaw9.WalkChecks': WHATEVER THE INPUT: true; the input reads as it did. -/
def walkChecksSpec : ChangeSpec := { name := "walkChecks", fn := fun _ => fun
  | [d] => { results := [.lit (.bool true)], args := [d] }
  | _ => none }
def walkChecksRow : OpenClaim := { program := "ytkgedpcipaogjaa", sum := "4a0c4aa77022c940f6de767b8ac6b2849c1def44513aa1ff9abbd6ac4f370c8f", func := "croft/croftlaw9.WalkChecks", spec := "walkChecks", unfollowed := true, recurses := true, apart := false }
def WalkChecksSaid : Prop := walkChecksRow.holds Try.pinned (OpenSpec.ofChange walkChecksSpec)

/-- ITS FALSE NEIGHBOUR: 'it returns false'. Refute it at one input. -/
def walkChecksWrong : ChangeSpec := { name := "walkChecks", fn := fun _ => fun
  | [d] => { results := [.lit (.bool false)], args := [d] }
  | _ => none }
def WalkChecksWrongFalsely : Prop := walkChecksRow.holds Try.pinned (OpenSpec.ofChange walkChecksWrong)

/-- 'croftlaw9.WalkBlocks': WHATEVER THE INPUT: true; the input reads as it did. -/
def walkBlocksSpec : ChangeSpec := { name := "walkBlocks", fn := fun _ => fun
  | [d] => { results := [.lit (.bool true)], args := [d] }
  | _ => none }
def walkBlocksRow : OpenClaim := { program := "ytkgedpcipaogjaa", sum := "4a0c4aa77022c940f6de767b8ac6b2849c1def44513aa1ff9abbd6ac4f370c8f", func := "croft/croftlaw9.WalkBlocks", spec := "walkBlocks", unfollowed := true, recurses := true, apart := false }
def WalkBlocksSaid : Prop := walkBlocksRow.holds Try.pinned (OpenSpec.ofChange walkBlocksSpec)

/-- ITS FALSE NEIGHBOUR: 'it returns false'. Refute it at one input. -/
def walkBlocksWrong : ChangeSpec := { name := "walkBlocks", fn := fun _ => fun
  | [d] => { results := [.lit (.bool false)], args := [d] }
  | _ => none }
def WalkBlocksWrongFalsely : Prop := walkBlocksRow.holds Try.pinned (OpenSpec.ofChange walkBlocksWrong)

/-- 'croftlaw9.WalkBytes': WHATEVER THE INPUT: true; the input reads as it did. -/
def walkBytesSpec : ChangeSpec := { name := "walkBytes", fn := fun _ => fun
  | [d1, d2, d3] => { results := [.lit (.bool true)], args := [d1, d2, d3] }
  | _ => none }
def walkBytesRow : OpenClaim := { program := "ytkgedpcipaogjaa", sum := "4a0c4aa77022c940f6de767b8ac6b2849c1def44513aa1ff9abbd6ac4f370c8f", func := "croft/croftlaw9.WalkBytes", spec := "walkBytes", unfollowed := true, recurses := true, apart := false }
def WalkBytesSaid : Prop := walkBytesRow.holds Try.pinned (OpenSpec.ofChange walkBytesSpec)

/-- ITS FALSE NEIGHBOUR: 'it returns false'. Refute it at one input. -/
def walkBytesWrong : ChangeSpec := { name := "walkBytes", fn := fun _ => fun
  | [d1, d2, d3] => { results := [.lit (.bool false)], args := [d1, d2, d3] }
  | _ => none }
def WalkBytesWrongFalsely : Prop := walkBytesRow.holds Try.pinned (OpenSpec.ofChange walkBytesWrong)

/-- 'croftlaw9.WalkApart': WHATEVER THE INPUT: true; the input reads as it did. -/
def walkApartSpec : ChangeSpec := { name := "walkApart", fn := fun _ => fun
  | [d] => { results := [.lit (.bool true)], args := [d] }
  | _ => none }
def walkApartRow : OpenClaim := { program := "ytkgedpcipaogjaa", sum := "4a0c4aa77022c940f6de767b8ac6b2849c1def44513aa1ff9abbd6ac4f370c8f", func := "croft/croftlaw9.WalkApart", spec := "walkApart", unfollowed := true, recurses := true, apart := false }
def WalkApartSaid : Prop := walkApartRow.holds Try.pinned (OpenSpec.ofChange walkApartSpec)

/-- ITS FALSE NEIGHBOUR: 'it returns false'. Refute it at one input. -/
def walkApartWrong : ChangeSpec := { name := "walkApart", fn := fun _ => fun
  | [d] => { results := [.lit (.bool false)], args := [d] }
  | _ => none }
def WalkApartWrongFalsely : Prop := walkApartRow.holds Try.pinned (OpenSpec.ofChange walkApartWrong)

/-- 'croftlaw9.WalkKept': WHATEVER THE INPUT: true; the input reads as it did. -/
def walkKeptSpec : ChangeSpec := { name := "walkKept", fn := fun _ => fun
  | [d] => { results := [.lit (.bool true)], args := [d] }
  | _ => none }
def walkKeptRow : OpenClaim := { program := "ytkgedpcipaogjaa", sum := "4a0c4aa77022c940f6de767b8ac6b2849c1def44513aa1ff9abbd6ac4f370c8f", func := "croft/croftlaw9.WalkKept", spec := "walkKept", unfollowed := true, recurses := true, apart := false }
def WalkKeptSaid : Prop := walkKeptRow.holds Try.pinned (OpenSpec.ofChange walkKeptSpec)

/-- ITS FALSE NEIGHBOUR: 'it returns false'. Refute it at one input. -/
def walkKeptWrong : ChangeSpec := { name := "walkKept", fn := fun _ => fun
  | [d] => { results := [.lit (.bool false)], args := [d] }
  | _ => none }
def WalkKeptWrongFalsely : Prop := walkKeptRow.holds Try.pinned (OpenSpec.ofChange walkKeptWrong)

/-- 'croftlaw9.WalkMoves': WHATEVER THE INPUT: true; the input reads as it did. -/
def walkMovesSpec : ChangeSpec := { name := "walkMoves", fn := fun _ => fun
  | [d1, d2] => { results := [.lit (.bool true)], args := [d1, d2] }
  | _ => none }
def walkMovesRow : OpenClaim := { program := "ytkgedpcipaogjaa", sum := "4a0c4aa77022c940f6de767b8ac6b2849c1def44513aa1ff9abbd6ac4f370c8f", func := "croft/croftlaw9.WalkMoves", spec := "walkMoves", unfollowed := true, recurses := true, apart := false }
def WalkMovesSaid : Prop := walkMovesRow.holds Try.pinned (OpenSpec.ofChange walkMovesSpec)

/-- ITS FALSE NEIGHBOUR: 'it returns false'. Refute it at one input. -/
def walkMovesWrong : ChangeSpec := { name := "walkMoves", fn := fun _ => fun
  | [d1, d2] => { results := [.lit (.bool false)], args := [d1, d2] }
  | _ => none }
def WalkMovesWrongFalsely : Prop := walkMovesRow.holds Try.pinned (OpenSpec.ofChange walkMovesWrong)

/- THE SECOND FORM. 'bulk': how many values and letters a reading holds, each counted each time it is reached (what is shared counts as often as it is met; a slice's spare places count too). A statement '..UptoSaid' is the law's where the arguments, and the package variables that the reading takes, are together of bulk at most 1048576: NARROWER than '..Said'. Prove '..Said' where nothing that the law and all that it calls make is longer than what came in: it says more and counts as full. Else prove '..UptoSaid'. A law counts once. -/
mutual
def uptoBulk {H : Type} : DataW H → Nat
  | .lit (.string bytes) => bytes.length + 1
  | .lit _ => 1
  | .nil => 1
  | .ptr d => uptoBulk d + 1
  | .slice elems spare => uptoBulkAll elems + uptoBulkAll spare + 1
  | .agg parts => uptoBulkAll parts + 1
  | .iface _ d => uptoBulk d + 1
  | .map entries => uptoBulkEntries entries + 1
  | .held _ => 1
def uptoBulkAll {H : Type} : List (DataW H) → Nat
  | [] => 0
  | d :: r => uptoBulk d + uptoBulkAll r
def uptoBulkEntries {H : Type} : List (Lit × DataW H) → Nat
  | [] => 0
  | x :: r => uptoBulkEntry x + uptoBulkEntries r
def uptoBulkEntry {H : Type} : Lit × DataW H → Nat
  | (.string bytes, d) => bytes.length + uptoBulk d + 1
  | (_, d) => uptoBulk d + 1
 end
def uptoSmall : (H : Type) → List (DataW H) → Bool := fun _ ds => decide (uptoBulkAll ds ≤ 1048576)
def OpenSpec.upto (s : _root_.Go.ChangeSpec) : _root_.Go.OpenSpec := { _root_.Go.OpenSpec.ofChange s with cond := some uptoSmall }

/-- 'croftlaw9.WalkKnown', WHERE WHAT IT READS IS OF BULK AT MOST 1048576: true; the input reads as it did. -/
def walkKnownUptoRow : OpenClaim := { program := "ytkgedpcipaogjaa", sum := "4a0c4aa77022c940f6de767b8ac6b2849c1def44513aa1ff9abbd6ac4f370c8f", func := "croft/croftlaw9.WalkKnown", spec := "walkKnown", unfollowed := true, recurses := true, apart := false, narrowed := true }
def WalkKnownUptoSaid : Prop := walkKnownUptoRow.holds Try.pinned (OpenSpec.upto walkKnownSpec)

/-- 'croftlaw9.WalkChecks', WHERE WHAT IT READS IS OF BULK AT MOST 1048576: true; the input reads as it did. -/
def walkChecksUptoRow : OpenClaim := { program := "ytkgedpcipaogjaa", sum := "4a0c4aa77022c940f6de767b8ac6b2849c1def44513aa1ff9abbd6ac4f370c8f", func := "croft/croftlaw9.WalkChecks", spec := "walkChecks", unfollowed := true, recurses := true, apart := false, narrowed := true }
def WalkChecksUptoSaid : Prop := walkChecksUptoRow.holds Try.pinned (OpenSpec.upto walkChecksSpec)

/-- 'croftlaw9.WalkBlocks', WHERE WHAT IT READS IS OF BULK AT MOST 1048576: true; the input reads as it did. -/
def walkBlocksUptoRow : OpenClaim := { program := "ytkgedpcipaogjaa", sum := "4a0c4aa77022c940f6de767b8ac6b2849c1def44513aa1ff9abbd6ac4f370c8f", func := "croft/croftlaw9.WalkBlocks", spec := "walkBlocks", unfollowed := true, recurses := true, apart := false, narrowed := true }
def WalkBlocksUptoSaid : Prop := walkBlocksUptoRow.holds Try.pinned (OpenSpec.upto walkBlocksSpec)

/-- 'croftlaw9.WalkBytes', WHERE WHAT IT READS IS OF BULK AT MOST 1048576: true; the input reads as it did. -/
def walkBytesUptoRow : OpenClaim := { program := "ytkgedpcipaogjaa", sum := "4a0c4aa77022c940f6de767b8ac6b2849c1def44513aa1ff9abbd6ac4f370c8f", func := "croft/croftlaw9.WalkBytes", spec := "walkBytes", unfollowed := true, recurses := true, apart := false, narrowed := true }
def WalkBytesUptoSaid : Prop := walkBytesUptoRow.holds Try.pinned (OpenSpec.upto walkBytesSpec)

/-- 'croftlaw9.WalkApart', WHERE WHAT IT READS IS OF BULK AT MOST 1048576: true; the input reads as it did. -/
def walkApartUptoRow : OpenClaim := { program := "ytkgedpcipaogjaa", sum := "4a0c4aa77022c940f6de767b8ac6b2849c1def44513aa1ff9abbd6ac4f370c8f", func := "croft/croftlaw9.WalkApart", spec := "walkApart", unfollowed := true, recurses := true, apart := false, narrowed := true }
def WalkApartUptoSaid : Prop := walkApartUptoRow.holds Try.pinned (OpenSpec.upto walkApartSpec)

/-- 'croftlaw9.WalkKept', WHERE WHAT IT READS IS OF BULK AT MOST 1048576: true; the input reads as it did. -/
def walkKeptUptoRow : OpenClaim := { program := "ytkgedpcipaogjaa", sum := "4a0c4aa77022c940f6de767b8ac6b2849c1def44513aa1ff9abbd6ac4f370c8f", func := "croft/croftlaw9.WalkKept", spec := "walkKept", unfollowed := true, recurses := true, apart := false, narrowed := true }
def WalkKeptUptoSaid : Prop := walkKeptUptoRow.holds Try.pinned (OpenSpec.upto walkKeptSpec)

/-- 'croftlaw9.WalkMoves', WHERE WHAT IT READS IS OF BULK AT MOST 1048576: true; the input reads as it did. -/
def walkMovesUptoRow : OpenClaim := { program := "ytkgedpcipaogjaa", sum := "4a0c4aa77022c940f6de767b8ac6b2849c1def44513aa1ff9abbd6ac4f370c8f", func := "croft/croftlaw9.WalkMoves", spec := "walkMoves", unfollowed := true, recurses := true, apart := false, narrowed := true }
def WalkMovesUptoSaid : Prop := walkMovesUptoRow.holds Try.pinned (OpenSpec.upto walkMovesSpec)

end Rows
end Go.Proofs.Ytkgedpcipaogjaa
