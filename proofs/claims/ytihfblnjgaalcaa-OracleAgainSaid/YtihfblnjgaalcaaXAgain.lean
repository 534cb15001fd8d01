/- OracleAgain, plain. -/
import Derived.Test.YtihfblnjgaalcaaRAg1
import Derived.Test.YtihfblnjgaalcaaXFit
namespace Go.Proofs.Ytihfblnjgaalcaa.OX
open Go Go.RowKit Go.Proofs.Ytihfblnjgaalcaa.R Go.Proofs.Ytihfblnjgaalcaa.OP Go.Proofs.Ytihfblnjgaalcaa.OB Go.Proofs.Ytihfblnjgaalcaa.OC
set_option linter.unusedVariables false
set_option linter.unusedSimpArgs false
theorem rdm {l : List S49} {i : Nat} (h : i < l.length) : (⟨(rd_T55 (cv l ++ marks) (i : Int)).f0, (rd_T55 (cv l ++ marks) (i : Int)).f1⟩ : S55) = el l i := by
  have hh : i < (cv l ++ marks).length := by rw [marks_length]; omega
  have e : rd_T55 (cv l ++ marks) (i : Int) = (cv l ++ marks)[i] := by
    unfold rd_T55
    rw [Int.toNat_natCast, List.getD_eq_getElem?_getD, List.getElem?_eq_getElem hh]; rfl
  rw [e, List.getElem_append_left (by rw [cv_length]; exact h), el_get h]
  unfold cv
  rw [List.getElem_map]
/-- The list, written over up to i. -/
def over (o l : List S49) (i : Nat) : List S55 := cv (o.take i) ++ (cv (l.drop i) ++ marks)
theorem over_length {o l : List S49} {i : Nat} (h : o.length = l.length) (hi : i ≤ l.length) : (over o l i).length = l.length + 8 := by
  unfold over
  rw [List.length_append, List.length_append, cv_length, cv_length, List.length_take, List.length_drop]
  show _ + (_ + 8) = _
  omega
theorem over_set {o l : List S49} {i : Nat} (h : o.length = l.length) (hi : i < l.length) : (over o l i).set ((i : Int)).toNat (el o i) = over o l (i + 1) := by
  have hlen : (cv (o.take i)).length = i := by rw [cv_length, List.length_take]; omega
  unfold over
  rw [Int.toNat_natCast, List.set_append_right _ _ (by omega), hlen, Nat.sub_self, cv_drop hi, List.cons_append, List.set_cons_zero, ← cv_snoc (by omega), List.append_assoc]
  rfl
theorem again_l0 {base limit order n r : Int} {dn : Bool} {l o : List S49} (hb0 : 0 ≤ base) (hb : base < 18446744073709551616) (hw : Wd49 l) (hwo : Wd49 o) (hlo : o.length = l.length) (hl : l.length ≤ 8796093021952) (hr0 : 0 ≤ r) (hr : r < 18446744073709551616) (d : Nat) :
    ∀ (k i : Nat), i + d = l.length → fitRounds l.length + 10 + d < k → croftlaw11_OracleAgain.l0 k o (over o l i) (l.length : Int) (nofitB base limit order n (cv l) r) (cv o ++ marks) (i : Int) base limit order n l r dn base limit order = some true := by
  have hfr : l.length * (l.length + 2) + 2 < fitRounds l.length := by unfold fitRounds; omega
  induction d with
  | zero =>
    intro k i hi hk
    obtain ⟨k, rfl⟩ : ∃ m, k = m + 1 := ⟨k - 1, by omega⟩
    obtain rfl : i = l.length := hi
    have hov : (over o l l.length).take ((l.length : Int)).toNat = cv o := by
      unfold over
      rw [Int.toNat_natCast, ← hlo, List.take_length, ← cv_length o, List.take_left']
      rfl
    rw [croftlaw11_OracleAgain.l0, if_neg (by omega), if_pos (by omega), if_pos (by rw [over_length hlo (Nat.le_refl _)]; omega), hov]
    rw [nofit_fr hb0 hb hwo (by omega) hr0 hr, Option.bind_some, sound_fr hb0 hb hwo (by omega), Option.bind_some]
    rw [refNoFit_f hb0 hb hw hl hr0 hr (by omega), Option.bind_some, if_pos (by simp), refNoFit_f hb0 hb hwo (by omega) hr0 hr (by rw [hlo]; omega), Option.bind_some, if_pos (by simp), refSound_f hb0 hb hwo (by omega) (by rw [hlo]; omega), Option.bind_some]
    simp
  | succ d ih =>
    intro k i hi hk
    obtain ⟨k, rfl⟩ : ∃ m, k = m + 1 := ⟨k - 1, by omega⟩
    have hil : i < l.length := by omega
    rw [croftlaw11_OracleAgain.l0, if_pos (by omega), if_pos (by omega), if_pos (by rw [marks_length]; omega), if_pos (by rw [over_length hlo (by omega)]; omega), rdm (by omega), over_set hlo hil, inc64 (by omega)]
    exact ih k (i + 1) (by omega) (by omega)
theorem again_f {base limit order n r : Int} {dn : Bool} {l o : List S49} (hb0 : 0 ≤ base) (hb : base < 18446744073709551616) (hw : Wd49 l) (hwo : Wd49 o) (hl : l.length ≤ 8796093021952) (hr0 : 0 ≤ r) (hr : r < 18446744073709551616) :
    croftlaw11_OracleAgain.f (fitRounds l.length + l.length + 100) base limit order n l r dn o = some true := by
  have hfr : l.length * (l.length + 2) + 1026 * (l.length + 2) + 3000 = fitRounds l.length := rfl
  unfold croftlaw11_OracleAgain.f
  rw [awake_ge (by omega), Option.bind_some, if_pos rfl]
  by_cases hlo : (o.length : Int) = (l.length : Int)
  · have hlo' : o.length = l.length := by omega
    rw [if_pos hlo, blocks_f hl (by omega), Option.bind_some]
    unfold croftlaw11_config.f
    rw [Option.bind_some, if_pos (by omega), if_pos (by rw [marks_length]; omega), take_cv l l.length rfl, nofit_fr hb0 hb hw hl hr0 hr, Option.bind_some, blocks_f (by omega) (by omega), Option.bind_some]
    have h := again_l0 (dn := dn) (n := n) (limit := limit) (order := order) hb0 hb hw hwo hlo' hl hr0 hr l.length (fitRounds l.length + l.length + 100) 0 (by omega) (by omega)
    have e0 : over o l 0 = cv l ++ marks := by unfold over; rw [List.take_zero, List.drop_zero]; rfl
    rw [e0] at h
    exact h
  · rw [if_neg hlo]
end Go.Proofs.Ytihfblnjgaalcaa.OX
