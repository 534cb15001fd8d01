/-
  No cell of these rows narrows 'for every input' (looked for: loops, veiled, ifaces, maps, wideKeys, modest, calm, conditions, laid).
  DERIVED. THE GIVEN ROWS OF THIS SEAT. 10 by the template 'for every input the law returns true; each argument reads behind the call as it read before'; 0 by the template 'total and deterministic' (their statements: YtihfblnjgaalcaaTotals.lean).
  GIVEN WITH THE SEED: the statements are not yours to turn. If you find one false, say at which input.
  Laid BY PROGRAM, IN A SANDBOX (cutbox-rows.mjs): the forced cells as the released guide's own fill.sh prints them over the translation 6454f919f31b8bb9… (all of the seat's roots in one cut). By AI agents, Wed Nov 11 2026. No macro, syntax, notation, axiom, sorry.
-/
import Derived.Test.YtihfblnjgaalcaaChecked
import GoSem.Claim
import GoSem.ClaimJoined
import GoSem.ClaimMapViews
import Derived.JoinedTies
import Derived.KernelRfl
namespace Go.Proofs.Ytihfblnjgaalcaa
/- THE CELL 'sum', in the pinned program and in every row, IS THE sha256 OF THE DUMP (.gsa) THAT YtihfblnjgaalcaaProg.lean LOADS. Nothing in Lean hashes anything: it is a label: what it is worth is what the hold of that sum in a sandbox is worth. -/
noncomputable def Try.pinned : Pinned := { name := "ytihfblnjgaalcaa", sum := "6454f919f31b8bb98afe7ff03fedc89ee21c812b7cf36e237593a33d9f61832e", checked := Try.checked }
namespace Rows
def none {H : Type} : Left H := { results := [], args := [] }

/-- 'croftlaw11.OracleSounds': WHATEVER THE INPUT: true; the input reads as it did. -/
def oracleSoundsSpec : ChangeSpec := { name := "oracleSounds", fn := fun _ => fun
  | [d1, d2, d3] => { results := [.lit (.bool true)], args := [d1, d2, d3] }
  | _ => none }
def oracleSoundsRow : OpenClaim := { program := "ytihfblnjgaalcaa", sum := "6454f919f31b8bb98afe7ff03fedc89ee21c812b7cf36e237593a33d9f61832e", func := "croft/croftlaw11.OracleSounds", spec := "oracleSounds", apart := false }
def OracleSoundsSaid : Prop := oracleSoundsRow.holds Try.pinned (OpenSpec.ofChange oracleSoundsSpec)

/-- ITS FALSE NEIGHBOUR: 'it returns false'. Refute it at one input. -/
def oracleSoundsWrong : ChangeSpec := { name := "oracleSounds", fn := fun _ => fun
  | [d1, d2, d3] => { results := [.lit (.bool false)], args := [d1, d2, d3] }
  | _ => none }
def OracleSoundsWrongFalsely : Prop := oracleSoundsRow.holds Try.pinned (OpenSpec.ofChange oracleSoundsWrong)

/-- 'croftlaw11.OracleLeasts': WHATEVER THE INPUT: true; the input reads as it did. -/
def oracleLeastsSpec : ChangeSpec := { name := "oracleLeasts", fn := fun _ => fun
  | [d] => { results := [.lit (.bool true)], args := [d] }
  | _ => none }
def oracleLeastsRow : OpenClaim := { program := "ytihfblnjgaalcaa", sum := "6454f919f31b8bb98afe7ff03fedc89ee21c812b7cf36e237593a33d9f61832e", func := "croft/croftlaw11.OracleLeasts", spec := "oracleLeasts", apart := false }
def OracleLeastsSaid : Prop := oracleLeastsRow.holds Try.pinned (OpenSpec.ofChange oracleLeastsSpec)

/-- ITS FALSE NEIGHBOUR: 'it returns false'. Refute it at one input. -/
def oracleLeastsWrong : ChangeSpec := { name := "oracleLeasts", fn := fun _ => fun
  | [d] => { results := [.lit (.bool false)], args := [d] }
  | _ => none }
def OracleLeastsWrongFalsely : Prop := oracleLeastsRow.holds Try.pinned (OpenSpec.ofChange oracleLeastsWrong)

/-- 'croftlaw11.OracleTurns': WHATEVER THE INPUT: true; the input reads as it did. -/
def oracleTurnsSpec : ChangeSpec := { name := "oracleTurns", fn := fun _ => fun
  | [d1, d2] => { results := [.lit (.bool true)], args := [d1, d2] }
  | _ => none }
def oracleTurnsRow : OpenClaim := { program := "ytihfblnjgaalcaa", sum := "6454f919f31b8bb98afe7ff03fedc89ee21c812b7cf36e237593a33d9f61832e", func := "croft/croftlaw11.OracleTurns", spec := "oracleTurns", apart := false }
def OracleTurnsSaid : Prop := oracleTurnsRow.holds Try.pinned (OpenSpec.ofChange oracleTurnsSpec)

/-- ITS FALSE NEIGHBOUR: 'it returns false'. Refute it at one input. -/
def oracleTurnsWrong : ChangeSpec := { name := "oracleTurns", fn := fun _ => fun
  | [d1, d2] => { results := [.lit (.bool false)], args := [d1, d2] }
  | _ => none }
def OracleTurnsWrongFalsely : Prop := oracleTurnsRow.holds Try.pinned (OpenSpec.ofChange oracleTurnsWrong)

/-- 'croftlaw11.OracleRises': WHATEVER THE INPUT: true; the input reads as it did. -/
def oracleRisesSpec : ChangeSpec := { name := "oracleRises", fn := fun _ => fun
  | [d1, d2] => { results := [.lit (.bool true)], args := [d1, d2] }
  | _ => none }
def oracleRisesRow : OpenClaim := { program := "ytihfblnjgaalcaa", sum := "6454f919f31b8bb98afe7ff03fedc89ee21c812b7cf36e237593a33d9f61832e", func := "croft/croftlaw11.OracleRises", spec := "oracleRises", apart := false }
def OracleRisesSaid : Prop := oracleRisesRow.holds Try.pinned (OpenSpec.ofChange oracleRisesSpec)

/-- ITS FALSE NEIGHBOUR: 'it returns false'. Refute it at one input. -/
def oracleRisesWrong : ChangeSpec := { name := "oracleRises", fn := fun _ => fun
  | [d1, d2] => { results := [.lit (.bool false)], args := [d1, d2] }
  | _ => none }
def OracleRisesWrongFalsely : Prop := oracleRisesRow.holds Try.pinned (OpenSpec.ofChange oracleRisesWrong)

/-- 'croftlaw11.OraclePages': WHATEVER THE INPUT: true; the input reads as it did. -/
def oraclePagesSpec : ChangeSpec := { name := "oraclePages", fn := fun _ => fun
  | [d1, d2] => { results := [.lit (.bool true)], args := [d1, d2] }
  | _ => none }
def oraclePagesRow : OpenClaim := { program := "ytihfblnjgaalcaa", sum := "6454f919f31b8bb98afe7ff03fedc89ee21c812b7cf36e237593a33d9f61832e", func := "croft/croftlaw11.OraclePages", spec := "oraclePages", apart := false }
def OraclePagesSaid : Prop := oraclePagesRow.holds Try.pinned (OpenSpec.ofChange oraclePagesSpec)

/-- ITS FALSE NEIGHBOUR: 'it returns false'. Refute it at one input. -/
def oraclePagesWrong : ChangeSpec := { name := "oraclePages", fn := fun _ => fun
  | [d1, d2] => { results := [.lit (.bool false)], args := [d1, d2] }
  | _ => none }
def OraclePagesWrongFalsely : Prop := oraclePagesRow.holds Try.pinned (OpenSpec.ofChange oraclePagesWrong)

/-- 'croftlaw11.OracleAgain': WHATEVER THE INPUT: true; the input reads as it did. -/
def oracleAgainSpec : ChangeSpec := { name := "oracleAgain", fn := fun _ => fun
  | [d1, d2] => { results := [.lit (.bool true)], args := [d1, d2] }
  | _ => none }
def oracleAgainRow : OpenClaim := { program := "ytihfblnjgaalcaa", sum := "6454f919f31b8bb98afe7ff03fedc89ee21c812b7cf36e237593a33d9f61832e", func := "croft/croftlaw11.OracleAgain", spec := "oracleAgain", apart := false }
def OracleAgainSaid : Prop := oracleAgainRow.holds Try.pinned (OpenSpec.ofChange oracleAgainSpec)

/-- ITS FALSE NEIGHBOUR: 'it returns false'. Refute it at one input. -/
def oracleAgainWrong : ChangeSpec := { name := "oracleAgain", fn := fun _ => fun
  | [d1, d2] => { results := [.lit (.bool false)], args := [d1, d2] }
  | _ => none }
def OracleAgainWrongFalsely : Prop := oracleAgainRow.holds Try.pinned (OpenSpec.ofChange oracleAgainWrong)

/-- 'croftlaw11.OracleFits': WHATEVER THE INPUT: true; the input reads as it did. -/
def oracleFitsSpec : ChangeSpec := { name := "oracleFits", fn := fun _ => fun
  | [d] => { results := [.lit (.bool true)], args := [d] }
  | _ => none }
def oracleFitsRow : OpenClaim := { program := "ytihfblnjgaalcaa", sum := "6454f919f31b8bb98afe7ff03fedc89ee21c812b7cf36e237593a33d9f61832e", func := "croft/croftlaw11.OracleFits", spec := "oracleFits", apart := false }
def OracleFitsSaid : Prop := oracleFitsRow.holds Try.pinned (OpenSpec.ofChange oracleFitsSpec)

/-- ITS FALSE NEIGHBOUR: 'it returns false'. Refute it at one input. -/
def oracleFitsWrong : ChangeSpec := { name := "oracleFits", fn := fun _ => fun
  | [d] => { results := [.lit (.bool false)], args := [d] }
  | _ => none }
def OracleFitsWrongFalsely : Prop := oracleFitsRow.holds Try.pinned (OpenSpec.ofChange oracleFitsWrong)

/-- 'croftlaw11.OracleBounds': WHATEVER THE INPUT: true; the input reads as it did. -/
def oracleBoundsSpec : ChangeSpec := { name := "oracleBounds", fn := fun _ => fun
  | [d] => { results := [.lit (.bool true)], args := [d] }
  | _ => none }
def oracleBoundsRow : OpenClaim := { program := "ytihfblnjgaalcaa", sum := "6454f919f31b8bb98afe7ff03fedc89ee21c812b7cf36e237593a33d9f61832e", func := "croft/croftlaw11.OracleBounds", spec := "oracleBounds", apart := false }
def OracleBoundsSaid : Prop := oracleBoundsRow.holds Try.pinned (OpenSpec.ofChange oracleBoundsSpec)

/-- ITS FALSE NEIGHBOUR: 'it returns false'. Refute it at one input. -/
def oracleBoundsWrong : ChangeSpec := { name := "oracleBounds", fn := fun _ => fun
  | [d] => { results := [.lit (.bool false)], args := [d] }
  | _ => none }
def OracleBoundsWrongFalsely : Prop := oracleBoundsRow.holds Try.pinned (OpenSpec.ofChange oracleBoundsWrong)

/-- 'croftlaw11.OracleRounds': WHATEVER THE INPUT: true; the input reads as it did. -/
def oracleRoundsSpec : ChangeSpec := { name := "oracleRounds", fn := fun _ => fun
  | [d1, d2, d3] => { results := [.lit (.bool true)], args := [d1, d2, d3] }
  | _ => none }
def oracleRoundsRow : OpenClaim := { program := "ytihfblnjgaalcaa", sum := "6454f919f31b8bb98afe7ff03fedc89ee21c812b7cf36e237593a33d9f61832e", func := "croft/croftlaw11.OracleRounds", spec := "oracleRounds", apart := false }
def OracleRoundsSaid : Prop := oracleRoundsRow.holds Try.pinned (OpenSpec.ofChange oracleRoundsSpec)

/-- ITS FALSE NEIGHBOUR: 'it returns false'. Refute it at one input. -/
def oracleRoundsWrong : ChangeSpec := { name := "oracleRounds", fn := fun _ => fun
  | [d1, d2, d3] => { results := [.lit (.bool false)], args := [d1, d2, d3] }
  | _ => none }
def OracleRoundsWrongFalsely : Prop := oracleRoundsRow.holds Try.pinned (OpenSpec.ofChange oracleRoundsWrong)

/-- 'croftlaw11.OracleKnown': WHATEVER THE INPUT: true; the input reads as it did. -/
def oracleKnownSpec : ChangeSpec := { name := "oracleKnown", fn := fun _ => fun
  | [] => { results := [.lit (.bool true)], args := [] }
  | _ => none }
def oracleKnownRow : OpenClaim := { program := "ytihfblnjgaalcaa", sum := "6454f919f31b8bb98afe7ff03fedc89ee21c812b7cf36e237593a33d9f61832e", func := "croft/croftlaw11.OracleKnown", spec := "oracleKnown", apart := false }
def OracleKnownSaid : Prop := oracleKnownRow.holds Try.pinned (OpenSpec.ofChange oracleKnownSpec)

/-- ITS FALSE NEIGHBOUR: 'it returns false'. Refute it at one input. -/
def oracleKnownWrong : ChangeSpec := { name := "oracleKnown", fn := fun _ => fun
  | [] => { results := [.lit (.bool false)], args := [] }
  | _ => none }
def OracleKnownWrongFalsely : Prop := oracleKnownRow.holds Try.pinned (OpenSpec.ofChange oracleKnownWrong)

/- THE SECOND FORM. 'bulk': how many values and letters a reading holds, each counted each time it is reached (what is shared counts as often as it is met; a slice's spare places count too). A statement '..UptoSaid' is the law's where the arguments, and the package variables that the reading takes, are together of bulk at most 1048576: NARROWER than '..Said'. Prove '..Said' where nothing that the law and all that it calls make is longer than what came in: it says more and counts as full. Else prove '..UptoSaid'. A law counts once. -/
mutual
def uptoBulk {H : Type} : DataW H → Nat
  | .lit (.string bytes) => bytes.length + 1
  | .lit _ => 1
  | .nil => 1
  | .ptr d => uptoBulk d + 1
  | .slice elems spare => uptoBulkAll elems + uptoBulkAll spare + 1
  | .agg parts => uptoBulkAll parts + 1
  | .iface _ d => uptoBulk d + 1
  | .map entries => uptoBulkEntries entries + 1
  | .held _ => 1
def uptoBulkAll {H : Type} : List (DataW H) → Nat
  | [] => 0
  | d :: r => uptoBulk d + uptoBulkAll r
def uptoBulkEntries {H : Type} : List (Lit × DataW H) → Nat
  | [] => 0
  | x :: r => uptoBulkEntry x + uptoBulkEntries r
def uptoBulkEntry {H : Type} : Lit × DataW H → Nat
  | (.string bytes, d) => bytes.length + uptoBulk d + 1
  | (_, d) => uptoBulk d + 1
 end
def uptoSmall : (H : Type) → List (DataW H) → Bool := fun _ ds => decide (uptoBulkAll ds ≤ 1048576)
def OpenSpec.upto (s : _root_.Go.ChangeSpec) : _root_.Go.OpenSpec := { _root_.Go.OpenSpec.ofChange s with cond := some uptoSmall }

/-- 'croftlaw11.OracleSounds', WHERE WHAT IT READS IS OF BULK AT MOST 1048576: true; the input reads as it did. -/
def oracleSoundsUptoRow : OpenClaim := { program := "ytihfblnjgaalcaa", sum := "6454f919f31b8bb98afe7ff03fedc89ee21c812b7cf36e237593a33d9f61832e", func := "croft/croftlaw11.OracleSounds", spec := "oracleSounds", apart := false, narrowed := true }
def OracleSoundsUptoSaid : Prop := oracleSoundsUptoRow.holds Try.pinned (OpenSpec.upto oracleSoundsSpec)

/-- 'croftlaw11.OracleLeasts', WHERE WHAT IT READS IS OF BULK AT MOST 1048576: true; the input reads as it did. -/
def oracleLeastsUptoRow : OpenClaim := { program := "ytihfblnjgaalcaa", sum := "6454f919f31b8bb98afe7ff03fedc89ee21c812b7cf36e237593a33d9f61832e", func := "croft/croftlaw11.OracleLeasts", spec := "oracleLeasts", apart := false, narrowed := true }
def OracleLeastsUptoSaid : Prop := oracleLeastsUptoRow.holds Try.pinned (OpenSpec.upto oracleLeastsSpec)

/-- 'croftlaw11.OracleTurns', WHERE WHAT IT READS IS OF BULK AT MOST 1048576: true; the input reads as it did. -/
def oracleTurnsUptoRow : OpenClaim := { program := "ytihfblnjgaalcaa", sum := "6454f919f31b8bb98afe7ff03fedc89ee21c812b7cf36e237593a33d9f61832e", func := "croft/croftlaw11.OracleTurns", spec := "oracleTurns", apart := false, narrowed := true }
def OracleTurnsUptoSaid : Prop := oracleTurnsUptoRow.holds Try.pinned (OpenSpec.upto oracleTurnsSpec)

/-- 'croftlaw11.OracleRises', WHERE WHAT IT READS IS OF BULK AT MOST 1048576: true; the input reads as it did. -/
def oracleRisesUptoRow : OpenClaim := { program := "ytihfblnjgaalcaa", sum := "6454f919f31b8bb98afe7ff03fedc89ee21c812b7cf36e237593a33d9f61832e", func := "croft/croftlaw11.OracleRises", spec := "oracleRises", apart := false, narrowed := true }
def OracleRisesUptoSaid : Prop := oracleRisesUptoRow.holds Try.pinned (OpenSpec.upto oracleRisesSpec)

/-- 'croftlaw11.OraclePages', WHERE WHAT IT READS IS OF BULK AT MOST 1048576: true; the input reads as it did. -/
def oraclePagesUptoRow : OpenClaim := { program := "ytihfblnjgaalcaa", sum := "6454f919f31b8bb98afe7ff03fedc89ee21c812b7cf36e237593a33d9f61832e", func := "croft/croftlaw11.OraclePages", spec := "oraclePages", apart := false, narrowed := true }
def OraclePagesUptoSaid : Prop := oraclePagesUptoRow.holds Try.pinned (OpenSpec.upto oraclePagesSpec)

/-- 'croftlaw11.OracleAgain', WHERE WHAT IT READS IS OF BULK AT MOST 1048576: true; the input reads as it did. -/
def oracleAgainUptoRow : OpenClaim := { program := "ytihfblnjgaalcaa", sum := "6454f919f31b8bb98afe7ff03fedc89ee21c812b7cf36e237593a33d9f61832e", func := "croft/croftlaw11.OracleAgain", spec := "oracleAgain", apart := false, narrowed := true }
def OracleAgainUptoSaid : Prop := oracleAgainUptoRow.holds Try.pinned (OpenSpec.upto oracleAgainSpec)

/-- 'croftlaw11.OracleFits', WHERE WHAT IT READS IS OF BULK AT MOST 1048576: true; the input reads as it did. -/
def oracleFitsUptoRow : OpenClaim := { program := "ytihfblnjgaalcaa", sum := "6454f919f31b8bb98afe7ff03fedc89ee21c812b7cf36e237593a33d9f61832e", func := "croft/croftlaw11.OracleFits", spec := "oracleFits", apart := false, narrowed := true }
def OracleFitsUptoSaid : Prop := oracleFitsUptoRow.holds Try.pinned (OpenSpec.upto oracleFitsSpec)

/-- 'croftlaw11.OracleBounds', WHERE WHAT IT READS IS OF BULK AT MOST 1048576: true; the input reads as it did. -/
def oracleBoundsUptoRow : OpenClaim := { program := "ytihfblnjgaalcaa", sum := "6454f919f31b8bb98afe7ff03fedc89ee21c812b7cf36e237593a33d9f61832e", func := "croft/croftlaw11.OracleBounds", spec := "oracleBounds", apart := false, narrowed := true }
def OracleBoundsUptoSaid : Prop := oracleBoundsUptoRow.holds Try.pinned (OpenSpec.upto oracleBoundsSpec)

/-- 'croftlaw11.OracleRounds', WHERE WHAT IT READS IS OF BULK AT MOST 1048576: true; the input reads as it did. -/
def oracleRoundsUptoRow : OpenClaim := { program := "ytihfblnjgaalcaa", sum := "6454f919f31b8bb98afe7ff03fedc89ee21c812b7cf36e237593a33d9f61832e", func := "croft/croftlaw11.OracleRounds", spec := "oracleRounds", apart := false, narrowed := true }
def OracleRoundsUptoSaid : Prop := oracleRoundsUptoRow.holds Try.pinned (OpenSpec.upto oracleRoundsSpec)

/-- 'croftlaw11.OracleKnown', WHERE WHAT IT READS IS OF BULK AT MOST 1048576: true; the input reads as it did. -/
def oracleKnownUptoRow : OpenClaim := { program := "ytihfblnjgaalcaa", sum := "6454f919f31b8bb98afe7ff03fedc89ee21c812b7cf36e237593a33d9f61832e", func := "croft/croftlaw11.OracleKnown", spec := "oracleKnown", apart := false, narrowed := true }
def OracleKnownUptoSaid : Prop := oracleKnownUptoRow.holds Try.pinned (OpenSpec.upto oracleKnownSpec)

end Rows
end Go.Proofs.Ytihfblnjgaalcaa
