/- OracleRounds: the row. -/
import Derived.Test.YtihfblnjgaalcaaRows
import Derived.Test.YtihfblnjgaalcaaXRounds
import Derived.WalkKit
import Derived.ProofKit
import Derived.OpenShut
import Derived.ShutString
import Derived.ChangeOld
import Derived.Below
import Derived.SizedLaws
import Derived.Lib.SmallJoins
namespace Go.Proofs.Ytihfblnjgaalcaa.oracleRounds
open Go.ChangeShapes Go.WideShapes Go.ChangeAt Go.RowKit Go.Joins
open Go.ChangeMaps (open_string shut_string)
set_option linter.unusedVariables false
theorem own : ownKnob Try.prog.godebug = none := by kernel_rfl
theorem cells_c : Try.prog.cellsOf 24 = 3 := by kernel_rfl
set_option maxRecDepth 100000 in
theorem lifted (os : Os) (started : os.Started) (H : Type) (enc : TypeId × Value → H) :
    ReturnsInHanded {} Try.checked os 11 .any (Rows.oracleRoundsSpec.pre6 enc Try.prog Try.f11 Rows.oracleRoundsRow.domain false) (Rows.oracleRoundsSpec.post enc Try.prog Try.f11 false true false false) := by
  refine returnsInHanded_of_change_sized (C := Try.checked) own started (by kernel_rfl) Try.func11
    (ChangeSpec.witness6 (enc := enc) (C := Try.checked) false ⟨#[], #[.agg #[.int .u64 0, .int .i64 0, .int .i64 0], .int .u64 0, .int .u64 0], []⟩ 8 (by kernel_rfl) (by kernel_rfl) (by kernel_rfl) (by kernel_rfl)) ?_
  intro W base args ds gs before hval0 hW hcnd hsz0 _
  have hval : ∀ (j : Nat) t v, Try.f11.params[j]? = some t → args[j]? = some v → Value.okWide Try.prog W .any base t v := hval0
  have hW' := hW
  obtain ⟨p, q, hA0, hV, rfl, hfz, hnd⟩ := hW
  have hA : DataW.TrodAll enc Try.prog W 0 (fun _ => true) true Try.f11.params.toList args.toList ds p := hA0
  rw [Try.params11] at hA hval
  obtain ⟨v0, vs0, d0, ds0, p0, q0, hargs, rfl, rfl, h0, r0⟩ := trodAll_cons hA
  obtain ⟨v1, vs1, d1, ds1, p1, q1, rfl, rfl, rfl, h1, r1⟩ := trodAll_cons r0
  obtain ⟨v2, vs2, d2, ds2, p2, q2, rfl, rfl, rfl, h2, r2⟩ := trodAll_cons r1
  obtain ⟨rfl, rfl, rfl⟩ := trodAll_nil r2
  obtain rfl : args = #[v0, v1, v2] := by cases args; simp_all
  obtain ⟨rfl, rfl⟩ := trodVars_none hV
  have k0 := h0
  obtain ⟨c0, c1, c2, y0, y1, y2, m, rfl, rfl, rfl, hy0, hy1, hy2⟩ := open_agg3 Try.underlying24 (by kernel_rfl) cells_c (hval 0 24 v0 rfl rfl) h0
  obtain ⟨b, e0, rfl, wb⟩ := DataW.trod_int Try.underlying22 hy0
  obtain ⟨l, e1, rfl, wl⟩ := DataW.trod_int Try.underlying3 hy1
  obtain ⟨o, e2, rfl, wo⟩ := DataW.trod_int Try.underlying3 hy2
  simp at e0 e1 e2
  subst e0 e1 e2
  obtain ⟨a1, rfl, rfl, rfl, w1⟩ := open_int Try.underlying22 (hval 1 22 v1 rfl rfl) h1
  obtain ⟨a2, rfl, rfl, rfl, w2⟩ := open_int Try.underlying22 (hval 2 22 v2 rfl rfl) h2
  clear hA0 hval0 hsz0
  have structReads : ∀ (W' : World) (sp : Nat → Bool), DataW.Trod enc Try.prog W' 0 sp true 24 (.agg #[.int .u64 b, .int .i64 l, .int .i64 o]) (.agg [.lit (.int .u64 b), .lit (.int .i64 l), .lit (.int .i64 o)]) [] := fun W' sp =>
    shut_agg3 (y0 := (.lit (.int .u64 b), [])) (y1 := (.lit (.int .i64 l), [])) (y2 := (.lit (.int .i64 o), [])) Try.underlying24 (by kernel_rfl) cells_c ⟨1, by simp [DataW.trod, Try.underlying22, wb]⟩ ⟨1, by simp [DataW.trod, Try.underlying3, wl]⟩ ⟨1, by simp [DataW.trod, Try.underlying3, wo]⟩
  have bb := bounds_u64 wb
  have b1 := bounds_u64 w1
  have b2 := bounds_u64 w2
  refine (R.croftlaw11_OracleRounds.calls 100 b l o a1 a2 true W (OX.rounds_f (by omega) (by omega) (by omega) (by omega) (by omega) (by omega))).mono fun e W' ⟨he, bel⟩ => ?_
  subst he
  exact ⟨_, rfl, _, _, _, [], _, [], hW', trodAll_mk1 (shut_bool Try.underlying4 _), (trodAll_cons_mk (structReads _ _) (trodAll_cons_mk (shut_int Try.underlying22 w1) (trodAll_cons_mk (shut_int Try.underlying22 w2) trodAll_mk0))), rfl, bel.frame _, fun h => by cases h⟩
theorem over : Rows.oracleRoundsRow.holds Try.pinned (OpenSpec.ofChange Rows.oracleRoundsSpec) :=
  OpenClaim.holds_of_wide 11 Try.f11 rfl rfl rfl rfl rfl rfl rfl ⟨rfl, rfl, rfl, rfl, rfl⟩ rfl rfl rfl rfl rfl (by kernel_rfl) Try.func11 (by kernel_rfl)
    (of_decide_eq_true (by kernel_rfl)) (by unfold Func.isWrapper; first | (rw [if_pos (by decide +kernel)]; kernel_rfl) | (rw [if_neg (by decide +kernel)]; exact ⟨rfl, rfl⟩))
    (fun os started H enc _ => lifted os started H enc)
theorem proved : Rows.OracleRoundsSaid := over
#print axioms proved
end Go.Proofs.Ytihfblnjgaalcaa.oracleRounds
namespace Go.Proofs.Ytihfblnjgaalcaa
/-- The row, under a short name, for the claim. -/
theorem oracleRounds_holds : Rows.OracleRoundsSaid := oracleRounds.proved
end Go.Proofs.Ytihfblnjgaalcaa
