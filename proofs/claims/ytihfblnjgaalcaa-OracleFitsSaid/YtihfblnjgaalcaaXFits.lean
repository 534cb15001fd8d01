/- OracleFits, plain. -/
import Derived.Test.YtihfblnjgaalcaaRFi1
import Derived.Test.YtihfblnjgaalcaaXFit
import Derived.Test.YtihfblnjgaalcaaXLeft
namespace Go.Proofs.Ytihfblnjgaalcaa.OX
open Go Go.RowKit Go.Proofs.Ytihfblnjgaalcaa.R Go.Proofs.Ytihfblnjgaalcaa.OP Go.Proofs.Ytihfblnjgaalcaa.OB Go.Proofs.Ytihfblnjgaalcaa.OC
set_option linter.unusedVariables false
set_option linter.unusedSimpArgs false
theorem stuck_or {base limit order n r : Int} {dn v : Bool} {l : List S55} (h : oracle_NoFit.f base limit order n l r = some v) : oracle_Stuck.f base limit order n l r dn = some (v && (dn || decide (n ≥ limit))) := by
  unfold oracle_Stuck.f
  rw [h, Option.bind_some]
  cases v <;> cases dn <;> rfl
theorem stuck_ref {base limit order n r : Int} {dn v : Bool} {l : List S49} {k : Nat} (h : croftref11_NoFit.f k base limit order n l r = some v) : croftref11_Stuck.f k base limit order n l r dn = some (v && (dn || decide (n ≥ limit))) := by
  unfold croftref11_Stuck.f
  rw [h, Option.bind_some]
  by_cases hn : n ≥ limit
  · rw [if_pos hn, decide_eq_true hn]
    cases v <;> cases dn <;> rfl
  · rw [if_neg hn, decide_eq_false hn]
    cases v <;> cases dn <;> rfl
theorem fits_f {base limit order n r : Int} {dn : Bool} {l : List S49} (hb0 : 0 ≤ base) (hb : base < 18446744073709551616) (hw : Wd49 l) (hl : l.length ≤ 8796093021952) (hr0 : 0 ≤ r) (hr : r < 18446744073709551616) :
    croftlaw11_OracleFits.f (fitRounds l.length + 100) base limit order n l r dn = some true := by
  have hk1 : l.length + 10 < fitRounds l.length + 99 := by unfold fitRounds; omega
  have hk2 : l.length + 10 < fitRounds l.length + 100 := by omega
  have hnf := nofit_fr (base := base) (limit := limit) (order := order) (n := n) (r := r) hb0 hb hw hl hr0 hr
  have href := refNoFit_f (base := base) (limit := limit) (order := order) (n := n) (r := r) hb0 hb hw hl hr0 hr (k := fitRounds l.length + 100) (by omega)
  have hj : croftlaw11_OracleFits.j0 (fitRounds l.length + 100) (cv l ++ marks) false base limit order n l r dn = some true := by
    rw [croftlaw11_OracleFits.j0, if_neg (by decide), left_f hl hk1, Option.bind_some, if_pos rfl, awake_ge (by omega)]
    rfl
  unfold croftlaw11_OracleFits.f
  rw [blocks_f hl hk2, Option.bind_some]
  unfold croftlaw11_config.f
  rw [Option.bind_some, if_pos (by omega), if_pos (by rw [marks_length]; omega), take_cv l l.length rfl, hnf, Option.bind_some, Option.bind_some]
  rw [stuck_or hnf, Option.bind_some, href, Option.bind_some, bne_self_eq_false, if_neg (by decide), stuck_ref href, Option.bind_some, bne_self_eq_false]
  exact hj
end Go.Proofs.Ytihfblnjgaalcaa.OX
