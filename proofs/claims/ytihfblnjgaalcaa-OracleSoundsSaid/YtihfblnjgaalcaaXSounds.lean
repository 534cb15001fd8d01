/- OracleSounds, plain. -/
import Derived.Test.YtihfblnjgaalcaaRSo1
import Derived.Test.YtihfblnjgaalcaaXRef
import Derived.Test.YtihfblnjgaalcaaXLeft
namespace Go.Proofs.Ytihfblnjgaalcaa.OX
open Go Go.RowKit Go.Proofs.Ytihfblnjgaalcaa.R Go.Proofs.Ytihfblnjgaalcaa.OP Go.Proofs.Ytihfblnjgaalcaa.OB
set_option linter.unusedVariables false
set_option linter.unusedSimpArgs false
/-- Enough rounds for a list. -/
def rounds (n : Nat) : Nat := n * (n + 2) + n + 100
theorem sounds_f {base limit order n : Int} {l : List S49} (hb0 : 0 ≤ base) (hb : base < 18446744073709551616) (hw : Wd49 l) (hl : l.length ≤ 8796093021952) :
    croftlaw11_OracleSounds.f (rounds l.length) base limit order n l = some true := by
  unfold croftlaw11_OracleSounds.f
  have hk1 : l.length + 10 < rounds l.length := by unfold rounds; omega
  have hk2 : l.length * (l.length + 2) + 2 < rounds l.length := by unfold rounds; omega
  rw [blocks_f hl hk1, Option.bind_some]
  unfold croftlaw11_config.f
  rw [Option.bind_some, if_pos (by omega), if_pos (by rw [marks_length]; omega), take_cv l l.length rfl, sound_fr hb0 hb hw hl, Option.bind_some, refSound_f hb0 hb hw hl hk2, Option.bind_some, if_pos rfl, left_f hl hk1, Option.bind_some, if_pos rfl, awake_ge (by unfold rounds; omega)]
  rfl
end Go.Proofs.Ytihfblnjgaalcaa.OX
