/- OracleTurns, plain. -/
import Derived.Test.YtihfblnjgaalcaaRT2
import Derived.Test.YtihfblnjgaalcaaXLists
import Derived.Test.YtihfblnjgaalcaaXStep
namespace Go.Proofs.Ytihfblnjgaalcaa.OX
open Go Go.RowKit Go.Proofs.YtihfblnjgaalcaaW.PrintWords Go.Proofs.YtihfblnjgaalcaaW.PrintLast Go.Proofs.YtihfblnjgaalcaaW.PrintMore Go.Proofs.Ytihfblnjgaalcaa.R Go.Proofs.Ytihfblnjgaalcaa.OP Go.Proofs.Ytihfblnjgaalcaa.OB
set_option linter.unusedVariables false
set_option linter.unusedSimpArgs false
theorem dec64 {i : Nat} (h : i < 9223372036854775807) : wrap64 (((i + 1 : Nat) : Int) - 1 - 1) = (i : Int) - 1 := by unfold wrap64; omega
theorem rev_drop {α : Type} (l : List α) {i : Nat} (h : i < l.length) : (l.drop (i + 1)).reverse ++ [l[i]] = (l.drop i).reverse := by
  rw [List.drop_eq_getElem_cons h, List.reverse_cons]
theorem turned_l0 (l : List S49) (hl : l.length ≤ 8796093021952) : ∀ (i k : Nat), i ≤ l.length → i < k → croftlaw11_turned.l0 k l (l.drop i).reverse ((i : Int) - 1) = some l.reverse
  | 0, k, hi, hk => by
    obtain ⟨k, rfl⟩ : ∃ m, k = m + 1 := ⟨k - 1, by omega⟩
    rw [croftlaw11_turned.l0, if_neg (by omega)]
    rfl
  | i + 1, k, hi, hk => by
    obtain ⟨k, rfl⟩ : ∃ m, k = m + 1 := ⟨k - 1, by omega⟩
    have hlen : (l.drop (i + 1)).reverse.length < 8796093022208 := by rw [List.length_reverse, List.length_drop]; omega
    rw [croftlaw11_turned.l0, if_pos (by omega), if_pos (by omega), if_pos (by omega), if_pos hlen, dec64 (by omega)]
    have e : ((i + 1 : Nat) : Int) - 1 = (i : Int) := by omega
    rw [e, rd49 (show i < l.length by omega)]
    have e2 : (l.drop (i + 1)).reverse ++ [(⟨(l[i]'(by omega)).f0, (l[i]'(by omega)).f1⟩ : S49)] = (l.drop i).reverse := rev_drop l (by omega)
    rw [e2]
    exact turned_l0 l hl i k (by omega) (by omega)
theorem turned_f {l : List S49} (hl : l.length ≤ 8796093021952) {k : Nat} (hk : l.length < k) : croftlaw11_turned.f k l = some l.reverse := by
  unfold croftlaw11_turned.f
  have e : wrap64 ((l.length : Int) - 1) = (l.length : Int) - 1 := by unfold wrap64; omega
  have h := turned_l0 l hl l.length k (Nat.le_refl _) hk
  rw [List.drop_length] at h
  rw [e]
  exact h
theorem turns_l0 (base limit order : Int) (l : List S49) (x : Int) (g : Bool) (z : List Int) (hb0 : 0 ≤ base) (hb : base < 18446744073709551616) (hw : Wd49 l) (hl : l.length ≤ 8796093021952) (hz : z.length ≤ 17592186043904) (hzw : ∀ x ∈ z, 0 ≤ x ∧ x < 18446744073709551616) (n : Nat) (hn : n = l.length) (he : OC.leastI base limit order (cv l) z.reverse = (x, g)) :
    ∀ (i k : Nat), i ≤ z.length → i < k → croftlaw11_OracleTurns.l0 k z (cv l ++ marks) (n : Int) x g (z.drop i).reverse ((i : Int) - 1) base limit order = some true
  | 0, k, hi, hk => by
    obtain ⟨k, rfl⟩ : ∃ m, k = m + 1 := ⟨k - 1, by omega⟩
    rw [croftlaw11_OracleTurns.l0, if_neg (by omega), if_pos (by omega), if_pos (by rw [marks_length]; omega), take_cv l n hn, List.drop_zero]
    rw [least_fr hb0 hb hw hl (by rw [List.length_reverse]; omega) (fun x hx => hzw x (List.mem_reverse.1 hx)), he, Option.bind_some, if_pos rfl]
    simp
  | i + 1, k, hi, hk => by
    obtain ⟨k, rfl⟩ : ∃ m, k = m + 1 := ⟨k - 1, by omega⟩
    have hlen : (z.drop (i + 1)).reverse.length < 17592186044416 := by rw [List.length_reverse, List.length_drop]; omega
    rw [croftlaw11_OracleTurns.l0, if_pos (by omega), if_pos (by omega), if_pos (by omega), if_pos hlen, dec64 (by omega)]
    have e : ((i + 1 : Nat) : Int) - 1 = (i : Int) := by omega
    rw [e, rdI (show i < z.length by omega), rev_drop z (by omega)]
    exact turns_l0 base limit order l x g z hb0 hb hw hl hz hzw n hn he i k (by omega) (by omega)
theorem turns_f {base limit order n r : Int} {dn : Bool} {l : List S49} {z : List Int} (hb0 : 0 ≤ base) (hb : base < 18446744073709551616) (hw : Wd49 l) (hl : l.length ≤ 8796093021952) (hr0 : 0 ≤ r) (hr : r < 18446744073709551616)
    (hz : z.length ≤ 17592186043904) (hzw : ∀ x ∈ z, 0 ≤ x ∧ x < 18446744073709551616) : croftlaw11_OracleTurns.f (l.length + z.length + 100) base limit order n l r dn z = some true := by
  have hwr := wd_reverse hw
  have hlr : l.reverse.length ≤ 8796093021952 := by rw [List.length_reverse]; exact hl
  have hp : (cv l).Perm (cv l.reverse) := by rw [cv_reverse]; exact (List.reverse_perm _).symm
  have hpos : ∀ b ∈ cv l, 0 ≤ b.f1 := fun b hb => (cv_wd hw b hb).2.1
  have hs := OV.sound_perm (base := base) (limit := limit) (order := order) (n := n) hp hpos
  have hf := OV.nofit_perm (base := base) (limit := limit) (order := order) (n := n) (r := r) hp hpos
  have hle := OV.least_perm (base := base) (limit := limit) (order := order) hp hpos (List.reverse_perm z).symm
  have hn : (l.length : Int) = ((l.reverse.length : Nat) : Int) := by rw [List.length_reverse]
  unfold croftlaw11_OracleTurns.f
  rw [awake_ge (by omega), Option.bind_some, if_pos rfl, blocks_f hl (by omega), Option.bind_some, turned_f hl (by omega), Option.bind_some, blocks_f hlr (by rw [List.length_reverse]; omega), Option.bind_some]
  unfold croftlaw11_config.f
  rw [Option.bind_some, if_pos (by omega), if_pos (by rw [marks_length]; omega), take_cv l l.length rfl]
  rw [sound_fr hb0 hb hw hl, Option.bind_some, if_pos (by rw [marks_length, List.length_reverse]; omega), take_cv l.reverse l.length (List.length_reverse).symm]
  rw [sound_fr hb0 hb hwr hlr, Option.bind_some]
  have e1 : ((OC.soundI base limit order n (cv l) == -1) != (OC.soundI base limit order n (cv l.reverse) == -1)) = false := by
    by_cases h : OC.soundI base limit order n (cv l) = -1
    · rw [h, hs.1 h]; rfl
    · have h2 := fun h3 => h (hs.2 h3)
      rw [beq_eq_false_iff_ne.2 h, beq_eq_false_iff_ne.2 h2]; rfl
  simp only
  rw [e1, if_neg (by decide), nofit_fr hb0 hb hw hl hr0 hr, Option.bind_some, nofit_fr hb0 hb hwr hlr hr0 hr, Option.bind_some, hf, bne_self_eq_false, if_neg (by decide)]
  rw [least_fr hb0 hb hw hl (by omega) hzw, Option.bind_some, hle]
  have e : wrap64 ((z.length : Int) - 1) = (z.length : Int) - 1 := by unfold wrap64; omega
  rw [e]
  have h := turns_l0 base limit order l.reverse (OC.leastI base limit order (cv l.reverse) z.reverse).1 (OC.leastI base limit order (cv l.reverse) z.reverse).2 z hb0 hb hwr hlr hz hzw l.length (List.length_reverse).symm rfl z.length (l.length + z.length + 100) (Nat.le_refl _) (by omega)
  rw [List.drop_length] at h
  exact h
end Go.Proofs.Ytihfblnjgaalcaa.OX
