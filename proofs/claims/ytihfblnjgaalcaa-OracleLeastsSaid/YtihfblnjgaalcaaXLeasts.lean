/- OracleLeasts, plain. -/
import Derived.Test.YtihfblnjgaalcaaRLe2
import Derived.Test.YtihfblnjgaalcaaXLd6
import Derived.Test.YtihfblnjgaalcaaXLeft
namespace Go.Proofs.Ytihfblnjgaalcaa.OL
open Go Go.RowKit Go.Proofs.YtihfblnjgaalcaaW.PrintWords Go.Proofs.YtihfblnjgaalcaaW.PrintLast Go.Proofs.YtihfblnjgaalcaaW.PrintMore Go.Proofs.Ytihfblnjgaalcaa.R Go.Proofs.Ytihfblnjgaalcaa.OP Go.Proofs.Ytihfblnjgaalcaa.OB Go.Proofs.Ytihfblnjgaalcaa.OV Go.Proofs.Ytihfblnjgaalcaa.OC Go.Proofs.Ytihfblnjgaalcaa.OX
set_option linter.unusedVariables false
set_option linter.unusedSimpArgs false
theorem sizes_l0 (z : List Int) (hz : z.length ≤ 17592186043904) (d : Nat) : ∀ (k i : Nat), i + d = z.length → d < k → croftlaw11_sizes.l0 k z (z.take i) (i : Int) = some (z ++ [77, 77, 77]) := by
 induction d with
 | zero =>
  intro k i hi hk
  obtain ⟨k, rfl⟩ : ∃ q, k = q + 1 := ⟨k - 1, by omega⟩
  obtain rfl : i = z.length := hi
  rw [croftlaw11_sizes.l0, if_neg (by omega), List.take_length, Option.bind_some, if_pos (by show z.length + 3 < _; omega)]
 | succ d ih =>
  intro k i hi hk
  obtain ⟨k, rfl⟩ : ∃ q, k = q + 1 := ⟨k - 1, by omega⟩
  have hil : i < z.length := by omega
  have hsn : z.take i ++ [rd z (i : Int)] = z.take (i + 1) := by rw [rdI hil, List.take_succ_eq_append_getElem hil]
  rw [croftlaw11_sizes.l0, if_pos (by omega), if_pos (by omega), if_pos (by rw [List.length_take]; omega), hsn, inc64 (by omega)]
  exact ih k (i + 1) (by omega) (by omega)
theorem sizes_f {z : List Int} (hz : z.length ≤ 17592186043904) {k : Nat} (hk : z.length < k) : croftlaw11_sizes.f k z = some (z ++ [77, 77, 77]) := by
 have h := sizes_l0 z hz z.length k 0 (by omega) hk
 rw [List.take_zero] at h
 exact h
theorem marks3 (z : List Int) : (z ++ [77, 77, 77]).length = z.length + 3 := by rw [List.length_append]; rfl
theorem rd_marked {z : List Int} {i : Nat} (h : i < z.length) : rd (z ++ [77, 77, 77]) (i : Int) = rd z (i : Int) := by
 rw [rdI (by rw [marks3]; omega), rdI h, List.getElem_append_left h]
theorem rd_mark (z : List Int) : rd (z ++ [77, 77, 77]) (z.length : Int) = 77 := by
 rw [rdI (by rw [marks3]; omega), List.getElem_append_right (Nat.le_refl _)]
 simp
theorem leasts_l0 {base limit order : Int} {l : List S49} (z : List Int) (hz : z.length ≤ 17592186043904) (d : Nat) : ∀ (k i : Nat), i + d = z.length → d < k → croftlaw11_OracleLeasts.l0 k (z ++ [77, 77, 77]) (i : Int) base limit order l z = some true := by
 induction d with
 | zero =>
  intro k i hi hk
  obtain ⟨k, rfl⟩ : ∃ q, k = q + 1 := ⟨k - 1, by omega⟩
  rw [croftlaw11_OracleLeasts.l0, if_neg (by omega), if_pos (by omega), if_pos (by rw [marks3]; omega), rd_mark]
  rfl
 | succ d ih =>
  intro k i hi hk
  obtain ⟨k, rfl⟩ : ∃ q, k = q + 1 := ⟨k - 1, by omega⟩
  have hil : i < z.length := by omega
  rw [croftlaw11_OracleLeasts.l0, if_pos (by omega), if_pos (by omega), if_pos (by rw [marks3]; omega), rd_marked hil, if_pos rfl, inc64 (by omega)]
  exact ih k (i + 1) (by omega) (by omega)
theorem leasts_f {base limit order : Int} {l : List S49} {z : List Int} (hb0 : 0 ≤ base) (hb : base < 18446744073709551616) (hw : Wd49 l) (hl : l.length ≤ 8796093021952) (hz : z.length ≤ 17592186043904) (hzw : ∀ x ∈ z, 0 ≤ x ∧ x < 18446744073709551616) :
  croftlaw11_OracleLeasts.f (leastRounds l.length z.length + l.length + 1) base limit order l z = some true := by
 have hk : l.length + 10 < leastRounds l.length z.length + l.length ∧ z.length + 10 < leastRounds l.length z.length + l.length := by
  unfold leastRounds
  generalize l.length * (l.length + 2) = q
  constructor <;> omega
 obtain ⟨K, hK⟩ : ∃ K, leastRounds l.length z.length + l.length = K := ⟨_, rfl⟩
 have href := refLeast_f (limit := limit) (order := order) (lv := l) (z := z) hb0 hb hw hl hz (k := leastRounds l.length z.length + l.length + 1) (by omega)
 rw [hK] at hk href ⊢
 have hor := least_fr (base := base) (limit := limit) (order := order) (l := l) (z := z) hb0 hb hw hl (by omega) hzw
 have htk : (z ++ [77, 77, 77]).take ((z.length : Int)).toNat = z := by rw [Int.toNat_natCast, List.take_left']; rfl
 have hj : croftlaw11_OracleLeasts.j0 (K + 1) (z ++ [77, 77, 77]) false base limit order l z = some true := by
  rw [croftlaw11_OracleLeasts.j0, if_neg (by decide)]
  exact leasts_l0 z hz z.length K 0 (by omega) (by omega)
 unfold croftlaw11_OracleLeasts.f
 rw [blocks_f hl (by omega), Option.bind_some, sizes_f hz (by omega), Option.bind_some]
 unfold croftlaw11_config.f
 rw [Option.bind_some, if_pos (by omega), if_pos (by rw [marks_length]; omega), if_pos (by omega), if_pos (by rw [marks3]; omega), take_cv l l.length rfl, htk, hor, Option.bind_some, href, Option.bind_some, if_pos rfl, bne_self_eq_false, if_neg (by decide), left_f hl (by omega), Option.bind_some, if_pos rfl, awake_ge (by omega), Option.bind_some]
 exact hj
end Go.Proofs.Ytihfblnjgaalcaa.OL
