/- The row WalkKept: whatever the input, true; the input reads as it did. -/
import Derived.Test.YtkgedpcipaogjaaRows
import Derived.Test.YtkgedpcipaogjaaProg
import Derived.WalkKit
import Derived.WalkLawsBesides
import Derived.Below
import Derived.Defers
import Derived.Recover
import Derived.Lib.Hide
import Derived.OrdersHeld
import Derived.Deep.RegionHeld3
import Derived.Laws.BitsLemmas
import Derived.RowKit
import Derived.Laws.EntriesVeiled
import Derived.Deep.LoopGhost
import Derived.ProofKit
import Derived.OpenShut
import Derived.SizedLaws
import Derived.Lib.SmallJoins
import Derived.Deep.Slices
import Derived.ShutString
import Derived.ChangeOld
import Derived.Carry
import Derived.Test.YtkgedpcipaogjaaK1
import Derived.Test.YtkgedpcipaogjaaK2
import Derived.Test.YtkgedpcipaogjaaZ1
import Derived.Test.YtkgedpcipaogjaaZ2
import Derived.Test.YtkgedpcipaogjaaZ3
import Derived.Test.YtkgedpcipaogjaaZ4
import Derived.Test.YtkgedpcipaogjaaZ5
import Derived.Test.YtkgedpcipaogjaaZ6
import Derived.Test.YtkgedpcipaogjaaZ7
import Derived.Test.YtkgedpcipaogjaaZ8
import Derived.Test.YtkgedpcipaogjaaZ9
import Derived.Test.YtkgedpcipaogjaaZ10
import Derived.Test.YtkgedpcipaogjaaZ11
import Derived.Test.YtkgedpcipaogjaaZ12
namespace Go.Proofs.Ytkgedpcipaogjaa.walkKept
open Go.ChangeShapes Go.WideShapes Go.ChangeAt Go.RowKit Go.Joins
open Go.ChangeMaps (open_string shut_string)
set_option linter.unusedVariables false
theorem own : ownKnob Try.prog.godebug = none := by kernel_rfl
theorem laidOut : laidOutB Try.prog = true := by kernel_rfl
set_option maxRecDepth 100000 in
theorem lifted (os : Os) (started : os.Started) (H : Type) (enc : TypeId × Value → H) :
    ReturnsInHanded {} Try.checked os 8 .any (Rows.walkKeptSpec.pre6 enc Try.prog Try.f8 Rows.walkKeptRow.domain false) (Rows.walkKeptSpec.post enc Try.prog Try.f8 false true false false) := by
  refine returnsInHanded_of_change_sized (C := Try.checked) own started (by kernel_rfl) Try.func8
    (ChangeSpec.witness6 (enc := enc) (C := Try.checked) false ⟨#[], #[.agg #[.int .u64 0, .int .i64 0, .int .i64 0, .int .i64 0, .slice none 0 0, .slice none 0 0, .slice none 0 0, .slice none 0 0, .slice none 0 0]], []⟩ 8 (by kernel_rfl) (by kernel_rfl) (by kernel_rfl) (by kernel_rfl)) ?_
  intro W base args ds gs before hval0 hW hcnd hsz0 _
  have hsz : (DataW.weightsEach Try.prog (Try.f8.params.toList ++ Rows.walkKeptSpec.plain.varTypes Try.prog) (ds ++ gs)).all (· ≤ reachBytes) = true := hsz0
  have hval : ∀ (j : Nat) t v, Try.f8.params[j]? = some t → args[j]? = some v → Value.okWide Try.prog W .any base t v := hval0
  have hW' := hW
  obtain ⟨p, q, hA0, hV, rfl, hfz, hnd⟩ := hW
  have hA : DataW.TrodAll enc Try.prog W 0 (fun _ => true) true Try.f8.params.toList args.toList ds p := hA0
  rw [Try.params8] at hA hval hsz
  obtain ⟨v0, vs0, d0, ds0, p0, q0, hargs, rfl, rfl, h0, rr0⟩ := trodAll_cons hA
  obtain ⟨rfl, rfl, rfl⟩ := trodAll_nil rr0
  obtain rfl : args = #[v0] := by cases args; simp_all
  obtain ⟨rfl, rfl⟩ := trodVars_none hV
  have k0 := h0
  have lt0 : ∀ x ∈ p0, x.block < W.heap.size := by obtain ⟨m, hm⟩ := k0; exact DataW.trod_lt m _ _ _ hm
  have s0 := WB.sized_at hsz (j := 0) (t := 31) rfl rfl
  obtain ⟨im0, sl0, rfl, hi0, hf1, hf2, hf3, hf4, hf5, hf6⟩ := WB.image_open_fit (hval 0 31 v0 rfl rfl) h0 s0
  clear hA0 hval0 hsz0 hsz
  refine (WB.kept_core hi0 (fun b hb => hb) ⟨Nat.le_trans hf1 (by decide), Nat.le_trans hf2 (by decide), Nat.le_trans hf3 (by decide), fun l hl => Nat.le_trans (hf4 l hl) (by decide), Nat.le_trans hf5 (by decide), Nat.le_trans hf6 (by decide)⟩).mono fun e W' ⟨he, bel⟩ => ?_
  subst he
  exact ⟨_, rfl, _, _, _, [], _, [], hW', trodAll_mk1 (shut_bool Try.underlying4 _), (trodAll_cons_mk (Below.trod laidOut (by kernel_rfl) (of_decide_eq_true (by kernel_rfl)) k0 bel lt0) trodAll_mk0), rfl, bel.frame _, fun h => by cases h⟩
theorem over : Rows.walkKeptRow.holds Try.pinned (OpenSpec.ofChange Rows.walkKeptSpec) :=
  OpenClaim.holds_of_wide 8 Try.f8 rfl rfl rfl rfl rfl rfl rfl ⟨rfl, rfl, rfl, rfl, rfl⟩ rfl rfl rfl rfl rfl (by kernel_rfl) Try.func8 (by kernel_rfl)
    (of_decide_eq_true (by kernel_rfl)) (by unfold Func.isWrapper; first | (rw [if_pos (by decide +kernel)]; kernel_rfl) | (rw [if_neg (by decide +kernel)]; exact ⟨rfl, rfl⟩))
    (fun os started H enc _ => lifted os started H enc)
theorem proved : Rows.WalkKeptSaid := over
#print axioms proved
end Go.Proofs.Ytkgedpcipaogjaa.walkKept
namespace Go.Proofs.Ytkgedpcipaogjaa
theorem walkKept_holds : Rows.WalkKeptSaid := walkKept.proved
end Go.Proofs.Ytkgedpcipaogjaa
