/- OracleLeasts: the row. -/
import Derived.Test.YtihfblnjgaalcaaRows
import Derived.Test.YtihfblnjgaalcaaXOpenC
import Derived.Test.YtihfblnjgaalcaaXLeasts
import Derived.ShutString
import Derived.ChangeOld
import Derived.Below
import Derived.Carry
namespace Go.Proofs.Ytihfblnjgaalcaa.oracleLeasts
open Go.ChangeShapes Go.WideShapes Go.ChangeAt Go.RowKit Go.Joins
open Go.ChangeMaps (open_string shut_string)
set_option linter.unusedVariables false
theorem own : ownKnob Try.prog.godebug = none := by kernel_rfl
theorem laidOut : laidOutB Try.prog = true := by kernel_rfl
set_option maxRecDepth 100000 in
theorem lifted (os : Os) (started : os.Started) (H : Type) (enc : TypeId × Value → H) :
    ReturnsInHanded {} Try.checked os 4 .any (Rows.oracleLeastsSpec.pre6 enc Try.prog Try.f4 Rows.oracleLeastsRow.domain false) (Rows.oracleLeastsSpec.post enc Try.prog Try.f4 false true false false) := by
  refine returnsInHanded_of_change_sized (C := Try.checked) own started (by kernel_rfl) Try.func4
    (ChangeSpec.witness6 (enc := enc) (C := Try.checked) false ⟨#[], #[.agg #[.int .u64 0, .int .i64 0, .int .i64 0, .slice none 0 0, .slice none 0 0]], []⟩ 8 (by kernel_rfl) (by kernel_rfl) (by kernel_rfl) (by kernel_rfl)) ?_
  intro W base args ds gs before hval0 hW hcnd hsz0 _
  have hsz : (DataW.weightsEach Try.prog (Try.f4.params.toList ++ Rows.oracleLeastsSpec.plain.varTypes Try.prog) (ds ++ gs)).all (· ≤ reachBytes) = true := hsz0
  have hval : ∀ (j : Nat) t v, Try.f4.params[j]? = some t → args[j]? = some v → Value.okWide Try.prog W .any base t v := hval0
  have hW' := hW
  obtain ⟨p, q, hA0, hV, rfl, hfz, hnd⟩ := hW
  have hA : DataW.TrodAll enc Try.prog W 0 (fun _ => true) true Try.f4.params.toList args.toList ds p := hA0
  rw [Try.params4] at hA hval hsz
  obtain ⟨v0, vs0, d0, ds0, p0, q0, hargs, rfl, rfl, h0, rr0⟩ := trodAll_cons hA
  obtain ⟨rfl, rfl, rfl⟩ := trodAll_nil rr0
  obtain rfl : args = #[v0] := by cases args; simp_all
  obtain ⟨rfl, rfl⟩ := trodVars_none hV
  have k0 := h0
  have lt0 : ∀ x ∈ p0, x.block < W.heap.size := by obtain ⟨m, hm⟩ := k0; exact DataW.trod_lt m _ _ _ hm
  have s0 := OX.sized_at hsz (j := 0) (t := 37) rfl rfl
  obtain ⟨b0, l0, o0, A0, c0, L0, B0, d0, Z0, rfl, hb0, hc0, hC0, hW0, hL0, hd0, hD0, hZw0, hZ0⟩ := OX.laid_open (hval 0 37 v0 rfl rfl) h0 s0
  clear hA0 hval0 hsz0 hsz
  refine (R.croftlaw11_OracleLeasts.calls (OL.leastRounds L0.length Z0.length + L0.length + 1) b0 l0 o0 A0 c0 L0 B0 d0 Z0 true W hC0 hc0 hD0 hd0 (OL.leasts_f hb0.1 hb0.2 hW0 hL0 hZ0 hZw0)).mono fun e W' ⟨he, bel⟩ => ?_
  subst he
  exact ⟨_, rfl, _, _, _, [], _, [], hW', trodAll_mk1 (shut_bool Try.underlying4 _), (trodAll_cons_mk (Below.trod laidOut (by kernel_rfl) (of_decide_eq_true (by kernel_rfl)) k0 bel lt0) trodAll_mk0), rfl, bel.frame _, fun h => by cases h⟩
theorem over : Rows.oracleLeastsRow.holds Try.pinned (OpenSpec.ofChange Rows.oracleLeastsSpec) :=
  OpenClaim.holds_of_wide 4 Try.f4 rfl rfl rfl rfl rfl rfl rfl ⟨rfl, rfl, rfl, rfl, rfl⟩ rfl rfl rfl rfl rfl (by kernel_rfl) Try.func4 (by kernel_rfl)
    (of_decide_eq_true (by kernel_rfl)) (by unfold Func.isWrapper; first | (rw [if_pos (by decide +kernel)]; kernel_rfl) | (rw [if_neg (by decide +kernel)]; exact ⟨rfl, rfl⟩))
    (fun os started H enc _ => lifted os started H enc)
theorem proved : Rows.OracleLeastsSaid := over
#print axioms proved
end Go.Proofs.Ytihfblnjgaalcaa.oracleLeasts
namespace Go.Proofs.Ytihfblnjgaalcaa
/-- The row, under a short name, for the claim. -/
theorem oracleLeasts_holds : Rows.OracleLeastsSaid := oracleLeasts.proved
end Go.Proofs.Ytihfblnjgaalcaa
