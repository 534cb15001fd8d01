/-
  No cell of these rows narrows 'for every input' (looked for: loops, veiled, ifaces, maps, wideKeys, modest, calm, conditions, laid).
  DERIVED. THE GIVEN ROWS OF THIS SEAT. 7 by the template 'for every input the law returns true; each argument reads behind the call as it read before'; 0 by the template 'total and deterministic' (their statements: YtccpoflhmooanaaTotals.lean).
  GIVEN WITH THE SEED: the statements are not yours to turn. If you find one false, say at which input.
  Laid BY PROGRAM, IN A SANDBOX (cutbox-rows.mjs): the forced cells as the released guide's own fill.sh prints them over the translation 06f5abcf203b2b56… (all of the seat's roots in one cut). By AI agents, Wed Nov 11 2026. No macro, syntax, notation, axiom, sorry.
-/
import Derived.Test.YtccpoflhmooanaaChecked
import GoSem.Claim
import GoSem.ClaimJoined
import GoSem.ClaimMapViews
import Derived.JoinedTies
import Derived.KernelRfl
namespace Go.Proofs.Ytccpoflhmooanaa
/- THE CELL 'sum', in the pinned program and in every row, IS THE sha256 OF THE DUMP (.gsa) THAT YtccpoflhmooanaaProg.lean LOADS. Nothing in Lean hashes anything: it is a label: what it is worth is what the hold of that sum in a sandbox is worth. -/
noncomputable def Try.pinned : Pinned := { name := "ytccpoflhmooanaa", sum := "06f5abcf203b2b5607f83b3f6f7210c147758e1e9c218d6beef3e5aa827bdc13", checked := Try.checked }
namespace Rows
def none {H : Type} : Left H := { results := [], args := [] }

/-- 'croftlaw1.BitsMultiples': WHATEVER THE INPUT: true; the input reads as it did. -/
def bitsMultiplesSpec : ChangeSpec := { name := "bitsMultiples", fn := fun _ => fun
  | [d1, d2] => { results := [.lit (.bool true)], args := [d1, d2] }
  | _ => none }
def bitsMultiplesRow : OpenClaim := { program := "ytccpoflhmooanaa", sum := "06f5abcf203b2b5607f83b3f6f7210c147758e1e9c218d6beef3e5aa827bdc13", func := "croft/croftlaw1.BitsMultiples", spec := "bitsMultiples", apart := false }
def BitsMultiplesSaid : Prop := bitsMultiplesRow.holds Try.pinned (OpenSpec.ofChange bitsMultiplesSpec)

/-- ITS FALSE NEIGHBOUR: 'it returns false'. Refute it at one input. -/
def bitsMultiplesWrong : ChangeSpec := { name := "bitsMultiples", fn := fun _ => fun
  | [d1, d2] => { results := [.lit (.bool false)], args := [d1, d2] }
  | _ => none }
def BitsMultiplesWrongFalsely : Prop := bitsMultiplesRow.holds Try.pinned (OpenSpec.ofChange bitsMultiplesWrong)

/-- 'croftlaw1.BitsKept': WHATEVER THE INPUT: true; the input reads as it did. -/
def bitsKeptSpec : ChangeSpec := { name := "bitsKept", fn := fun _ => fun
  | [d1, d2] => { results := [.lit (.bool true)], args := [d1, d2] }
  | _ => none }
def bitsKeptRow : OpenClaim := { program := "ytccpoflhmooanaa", sum := "06f5abcf203b2b5607f83b3f6f7210c147758e1e9c218d6beef3e5aa827bdc13", func := "croft/croftlaw1.BitsKept", spec := "bitsKept", apart := false }
def BitsKeptSaid : Prop := bitsKeptRow.holds Try.pinned (OpenSpec.ofChange bitsKeptSpec)

/-- ITS FALSE NEIGHBOUR: 'it returns false'. Refute it at one input. -/
def bitsKeptWrong : ChangeSpec := { name := "bitsKept", fn := fun _ => fun
  | [d1, d2] => { results := [.lit (.bool false)], args := [d1, d2] }
  | _ => none }
def BitsKeptWrongFalsely : Prop := bitsKeptRow.holds Try.pinned (OpenSpec.ofChange bitsKeptWrong)

/-- 'croftlaw1.BitsBack': WHATEVER THE INPUT: true; the input reads as it did. -/
def bitsBackSpec : ChangeSpec := { name := "bitsBack", fn := fun _ => fun
  | [d1, d2, d3] => { results := [.lit (.bool true)], args := [d1, d2, d3] }
  | _ => none }
def bitsBackRow : OpenClaim := { program := "ytccpoflhmooanaa", sum := "06f5abcf203b2b5607f83b3f6f7210c147758e1e9c218d6beef3e5aa827bdc13", func := "croft/croftlaw1.BitsBack", spec := "bitsBack", apart := false }
def BitsBackSaid : Prop := bitsBackRow.holds Try.pinned (OpenSpec.ofChange bitsBackSpec)

/-- ITS FALSE NEIGHBOUR: 'it returns false'. Refute it at one input. -/
def bitsBackWrong : ChangeSpec := { name := "bitsBack", fn := fun _ => fun
  | [d1, d2, d3] => { results := [.lit (.bool false)], args := [d1, d2, d3] }
  | _ => none }
def BitsBackWrongFalsely : Prop := bitsBackRow.holds Try.pinned (OpenSpec.ofChange bitsBackWrong)

/-- 'croftlaw1.BitsPowers': WHATEVER THE INPUT: true; the input reads as it did. -/
def bitsPowersSpec : ChangeSpec := { name := "bitsPowers", fn := fun _ => fun
  | [d] => { results := [.lit (.bool true)], args := [d] }
  | _ => none }
def bitsPowersRow : OpenClaim := { program := "ytccpoflhmooanaa", sum := "06f5abcf203b2b5607f83b3f6f7210c147758e1e9c218d6beef3e5aa827bdc13", func := "croft/croftlaw1.BitsPowers", spec := "bitsPowers", apart := false }
def BitsPowersSaid : Prop := bitsPowersRow.holds Try.pinned (OpenSpec.ofChange bitsPowersSpec)

/-- ITS FALSE NEIGHBOUR: 'it returns false'. Refute it at one input. -/
def bitsPowersWrong : ChangeSpec := { name := "bitsPowers", fn := fun _ => fun
  | [d] => { results := [.lit (.bool false)], args := [d] }
  | _ => none }
def BitsPowersWrongFalsely : Prop := bitsPowersRow.holds Try.pinned (OpenSpec.ofChange bitsPowersWrong)

/-- 'croftlaw1.BitsBetween': WHATEVER THE INPUT: true; the input reads as it did. -/
def bitsBetweenSpec : ChangeSpec := { name := "bitsBetween", fn := fun _ => fun
  | [d1, d2] => { results := [.lit (.bool true)], args := [d1, d2] }
  | _ => none }
def bitsBetweenRow : OpenClaim := { program := "ytccpoflhmooanaa", sum := "06f5abcf203b2b5607f83b3f6f7210c147758e1e9c218d6beef3e5aa827bdc13", func := "croft/croftlaw1.BitsBetween", spec := "bitsBetween", apart := false }
def BitsBetweenSaid : Prop := bitsBetweenRow.holds Try.pinned (OpenSpec.ofChange bitsBetweenSpec)

/-- ITS FALSE NEIGHBOUR: 'it returns false'. Refute it at one input. -/
def bitsBetweenWrong : ChangeSpec := { name := "bitsBetween", fn := fun _ => fun
  | [d1, d2] => { results := [.lit (.bool false)], args := [d1, d2] }
  | _ => none }
def BitsBetweenWrongFalsely : Prop := bitsBetweenRow.holds Try.pinned (OpenSpec.ofChange bitsBetweenWrong)

/-- 'croftlaw1.BitsLeast': WHATEVER THE INPUT: true; the input reads as it did. -/
def bitsLeastSpec : ChangeSpec := { name := "bitsLeast", fn := fun _ => fun
  | [d] => { results := [.lit (.bool true)], args := [d] }
  | _ => none }
def bitsLeastRow : OpenClaim := { program := "ytccpoflhmooanaa", sum := "06f5abcf203b2b5607f83b3f6f7210c147758e1e9c218d6beef3e5aa827bdc13", func := "croft/croftlaw1.BitsLeast", spec := "bitsLeast", apart := false }
def BitsLeastSaid : Prop := bitsLeastRow.holds Try.pinned (OpenSpec.ofChange bitsLeastSpec)

/-- ITS FALSE NEIGHBOUR: 'it returns false'. Refute it at one input. -/
def bitsLeastWrong : ChangeSpec := { name := "bitsLeast", fn := fun _ => fun
  | [d] => { results := [.lit (.bool false)], args := [d] }
  | _ => none }
def BitsLeastWrongFalsely : Prop := bitsLeastRow.holds Try.pinned (OpenSpec.ofChange bitsLeastWrong)

/-- 'croftlaw1.BitsWidths': WHATEVER THE INPUT: true; the input reads as it did. -/
def bitsWidthsSpec : ChangeSpec := { name := "bitsWidths", fn := fun _ => fun
  | [d1, d2] => { results := [.lit (.bool true)], args := [d1, d2] }
  | _ => none }
def bitsWidthsRow : OpenClaim := { program := "ytccpoflhmooanaa", sum := "06f5abcf203b2b5607f83b3f6f7210c147758e1e9c218d6beef3e5aa827bdc13", func := "croft/croftlaw1.BitsWidths", spec := "bitsWidths", apart := false }
def BitsWidthsSaid : Prop := bitsWidthsRow.holds Try.pinned (OpenSpec.ofChange bitsWidthsSpec)

/-- ITS FALSE NEIGHBOUR: 'it returns false'. Refute it at one input. -/
def bitsWidthsWrong : ChangeSpec := { name := "bitsWidths", fn := fun _ => fun
  | [d1, d2] => { results := [.lit (.bool false)], args := [d1, d2] }
  | _ => none }
def BitsWidthsWrongFalsely : Prop := bitsWidthsRow.holds Try.pinned (OpenSpec.ofChange bitsWidthsWrong)

/- THE SECOND FORM. 'bulk': how many values and letters a reading holds, each counted each time it is reached (what is shared counts as often as it is met; a slice's spare places count too). A statement '..UptoSaid' is the law's where the arguments, and the package variables that the reading takes, are together of bulk at most 1048576: NARROWER than '..Said'. Prove '..Said' where nothing that the law and all that it calls make is longer than what came in: it says more and counts as full. Else prove '..UptoSaid'. A law counts once. -/
mutual
def uptoBulk {H : Type} : DataW H → Nat
  | .lit (.string bytes) => bytes.length + 1
  | .lit _ => 1
  | .nil => 1
  | .ptr d => uptoBulk d + 1
  | .slice elems spare => uptoBulkAll elems + uptoBulkAll spare + 1
  | .agg parts => uptoBulkAll parts + 1
  | .iface _ d => uptoBulk d + 1
  | .map entries => uptoBulkEntries entries + 1
  | .held _ => 1
def uptoBulkAll {H : Type} : List (DataW H) → Nat
  | [] => 0
  | d :: r => uptoBulk d + uptoBulkAll r
def uptoBulkEntries {H : Type} : List (Lit × DataW H) → Nat
  | [] => 0
  | x :: r => uptoBulkEntry x + uptoBulkEntries r
def uptoBulkEntry {H : Type} : Lit × DataW H → Nat
  | (.string bytes, d) => bytes.length + uptoBulk d + 1
  | (_, d) => uptoBulk d + 1
 end
def uptoSmall : (H : Type) → List (DataW H) → Bool := fun _ ds => decide (uptoBulkAll ds ≤ 1048576)
def OpenSpec.upto (s : _root_.Go.ChangeSpec) : _root_.Go.OpenSpec := { _root_.Go.OpenSpec.ofChange s with cond := some uptoSmall }

/-- 'croftlaw1.BitsMultiples', WHERE WHAT IT READS IS OF BULK AT MOST 1048576: true; the input reads as it did. -/
def bitsMultiplesUptoRow : OpenClaim := { program := "ytccpoflhmooanaa", sum := "06f5abcf203b2b5607f83b3f6f7210c147758e1e9c218d6beef3e5aa827bdc13", func := "croft/croftlaw1.BitsMultiples", spec := "bitsMultiples", apart := false, narrowed := true }
def BitsMultiplesUptoSaid : Prop := bitsMultiplesUptoRow.holds Try.pinned (OpenSpec.upto bitsMultiplesSpec)

/-- 'croftlaw1.BitsKept', WHERE WHAT IT READS IS OF BULK AT MOST 1048576: true; the input reads as it did. -/
def bitsKeptUptoRow : OpenClaim := { program := "ytccpoflhmooanaa", sum := "06f5abcf203b2b5607f83b3f6f7210c147758e1e9c218d6beef3e5aa827bdc13", func := "croft/croftlaw1.BitsKept", spec := "bitsKept", apart := false, narrowed := true }
def BitsKeptUptoSaid : Prop := bitsKeptUptoRow.holds Try.pinned (OpenSpec.upto bitsKeptSpec)

/-- 'croftlaw1.BitsBack', WHERE WHAT IT READS IS OF BULK AT MOST 1048576: true; the input reads as it did. -/
def bitsBackUptoRow : OpenClaim := { program := "ytccpoflhmooanaa", sum := "06f5abcf203b2b5607f83b3f6f7210c147758e1e9c218d6beef3e5aa827bdc13", func := "croft/croftlaw1.BitsBack", spec := "bitsBack", apart := false, narrowed := true }
def BitsBackUptoSaid : Prop := bitsBackUptoRow.holds Try.pinned (OpenSpec.upto bitsBackSpec)

/-- 'croftlaw1.BitsPowers', WHERE WHAT IT READS IS OF BULK AT MOST 1048576: true; the input reads as it did. -/
def bitsPowersUptoRow : OpenClaim := { program := "ytccpoflhmooanaa", sum := "06f5abcf203b2b5607f83b3f6f7210c147758e1e9c218d6beef3e5aa827bdc13", func := "croft/croftlaw1.BitsPowers", spec := "bitsPowers", apart := false, narrowed := true }
def BitsPowersUptoSaid : Prop := bitsPowersUptoRow.holds Try.pinned (OpenSpec.upto bitsPowersSpec)

/-- 'croftlaw1.BitsBetween', WHERE WHAT IT READS IS OF BULK AT MOST 1048576: true; the input reads as it did. -/
def bitsBetweenUptoRow : OpenClaim := { program := "ytccpoflhmooanaa", sum := "06f5abcf203b2b5607f83b3f6f7210c147758e1e9c218d6beef3e5aa827bdc13", func := "croft/croftlaw1.BitsBetween", spec := "bitsBetween", apart := false, narrowed := true }
def BitsBetweenUptoSaid : Prop := bitsBetweenUptoRow.holds Try.pinned (OpenSpec.upto bitsBetweenSpec)

/-- 'croftlaw1.BitsLeast', WHERE WHAT IT READS IS OF BULK AT MOST 1048576: true; the input reads as it did. -/
def bitsLeastUptoRow : OpenClaim := { program := "ytccpoflhmooanaa", sum := "06f5abcf203b2b5607f83b3f6f7210c147758e1e9c218d6beef3e5aa827bdc13", func := "croft/croftlaw1.BitsLeast", spec := "bitsLeast", apart := false, narrowed := true }
def BitsLeastUptoSaid : Prop := bitsLeastUptoRow.holds Try.pinned (OpenSpec.upto bitsLeastSpec)

/-- 'croftlaw1.BitsWidths', WHERE WHAT IT READS IS OF BULK AT MOST 1048576: true; the input reads as it did. -/
def bitsWidthsUptoRow : OpenClaim := { program := "ytccpoflhmooanaa", sum := "06f5abcf203b2b5607f83b3f6f7210c147758e1e9c218d6beef3e5aa827bdc13", func := "croft/croftlaw1.BitsWidths", spec := "bitsWidths", apart := false, narrowed := true }
def BitsWidthsUptoSaid : Prop := bitsWidthsUptoRow.holds Try.pinned (OpenSpec.upto bitsWidthsSpec)

end Rows
end Go.Proofs.Ytccpoflhmooanaa
