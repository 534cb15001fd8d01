/- The row WalkKnown: whatever the input, true; the input reads as it did. -/
import Derived.Test.YtkgedpcipaogjaaRows
import Derived.Test.YtkgedpcipaogjaaProg
import Derived.WalkKit
import Derived.WalkLawsBesides
import Derived.Below
import Derived.Defers
import Derived.Recover
import Derived.Lib.Hide
import Derived.Deep.Draws
import Derived.Deep.AppendLies
import Derived.Maps.AppendAt
import Derived.OwnWalk
import Derived.Laws.BytesArg
import Derived.Laws.MakeOwn
import Derived.Laws.OwnMore
import Derived.Deep.OwnRows
import Derived.Tactics
import Derived.Lib.ConvBytes
import Derived.Laws.Slices
import Derived.KernelRfl
import Derived.RowKit3
import Derived.Deep.LoopGhost
import Derived.Deep.QuietTactic
import Derived.BigQuiet
import Derived.WideLaws
import Derived.Deep.DeepCutAuto
import Derived.Deep.CutBlock
import Derived.Deep.RegionHeld3
import Derived.Laws.Rows
import Derived.Lib.AppendStr
import Derived.ArgAppend
import Derived.Laws.IdiomCopy
import Derived.RowKit
import Derived.OrdersHeld
import Derived.Laws.BitsLemmas
import Derived.Laws.EntriesVeiled
import Derived.ProofKit
import Derived.OpenShut
import Derived.SizedLaws
import Derived.Lib.SmallJoins
import Derived.Deep.Slices
import Derived.ShutString
import Derived.ChangeOld
import Derived.Carry
import Derived.Test.YtkgedpcipaogjaaE2
import Derived.Test.YtkgedpcipaogjaaZ1
import Derived.Test.YtkgedpcipaogjaaZ2
import Derived.Test.YtkgedpcipaogjaaZ3
import Derived.Test.YtkgedpcipaogjaaZ4
import Derived.Test.YtkgedpcipaogjaaZ5
import Derived.Test.YtkgedpcipaogjaaZ6
import Derived.Test.YtkgedpcipaogjaaZ7
import Derived.Test.YtkgedpcipaogjaaZ8
import Derived.Test.YtkgedpcipaogjaaZ9
import Derived.Test.YtkgedpcipaogjaaZ10
import Derived.Test.YtkgedpcipaogjaaZ11
import Derived.Test.YtkgedpcipaogjaaZ12
namespace Go.Proofs.Ytkgedpcipaogjaa.walkKnown
open Go.ChangeShapes Go.WideShapes Go.ChangeAt Go.RowKit Go.Joins
open Go.ChangeMaps (open_string shut_string)
set_option linter.unusedVariables false
theorem own : ownKnob Try.prog.godebug = none := by kernel_rfl
theorem laidOut : laidOutB Try.prog = true := by kernel_rfl
set_option maxRecDepth 100000 in
theorem lifted (os : Os) (started : os.Started) (H : Type) (enc : TypeId × Value → H) :
    ReturnsInHanded {} Try.checked os 3 .any (Rows.walkKnownSpec.pre6 enc Try.prog Try.f3 Rows.walkKnownRow.domain false) (Rows.walkKnownSpec.post enc Try.prog Try.f3 false true false false) := by
  refine returnsInHanded_of_change_sized (C := Try.checked) own started (by kernel_rfl) Try.func3
    (ChangeSpec.witness6 (enc := enc) (C := Try.checked) false ⟨#[], #[], []⟩ 8 (by kernel_rfl) (by kernel_rfl) (by kernel_rfl) (by kernel_rfl)) ?_
  intro W base args ds gs before hval0 hW hcnd hsz0 _
  have hsz : (DataW.weightsEach Try.prog (Try.f3.params.toList ++ Rows.walkKnownSpec.plain.varTypes Try.prog) (ds ++ gs)).all (· ≤ reachBytes) = true := hsz0
  have hval : ∀ (j : Nat) t v, Try.f3.params[j]? = some t → args[j]? = some v → Value.okWide Try.prog W .any base t v := hval0
  have hW' := hW
  obtain ⟨p, q, hA0, hV, rfl, hfz, hnd⟩ := hW
  have hA : DataW.TrodAll enc Try.prog W 0 (fun _ => true) true Try.f3.params.toList args.toList ds p := hA0
  rw [Try.params3] at hA hval hsz
  obtain ⟨hz, rfl, rfl⟩ := trodAll_nil hA
  obtain rfl : args = #[] := by cases args; simp_all
  obtain ⟨rfl, rfl⟩ := trodVars_none hV
  clear hA0 hval0 hsz0 hsz
  refine (WB.known_core W).mono fun e W' ⟨he, bel⟩ => ?_
  subst he
  exact ⟨_, rfl, _, _, _, [], _, [], hW', trodAll_mk1 (shut_bool Try.underlying4 _), trodAll_mk0, rfl, bel.frame _, fun h => by cases h⟩
theorem over : Rows.walkKnownRow.holds Try.pinned (OpenSpec.ofChange Rows.walkKnownSpec) :=
  OpenClaim.holds_of_wide 3 Try.f3 rfl rfl rfl rfl rfl rfl rfl ⟨rfl, rfl, rfl, rfl, rfl⟩ rfl rfl rfl rfl rfl (by kernel_rfl) Try.func3 (by kernel_rfl)
    (of_decide_eq_true (by kernel_rfl)) (by unfold Func.isWrapper; first | (rw [if_pos (by decide +kernel)]; kernel_rfl) | (rw [if_neg (by decide +kernel)]; exact ⟨rfl, rfl⟩))
    (fun os started H enc _ => lifted os started H enc)
theorem proved : Rows.WalkKnownSaid := over
#print axioms proved
end Go.Proofs.Ytkgedpcipaogjaa.walkKnown
namespace Go.Proofs.Ytkgedpcipaogjaa
theorem walkKnown_holds : Rows.WalkKnownSaid := walkKnown.proved
end Go.Proofs.Ytkgedpcipaogjaa
