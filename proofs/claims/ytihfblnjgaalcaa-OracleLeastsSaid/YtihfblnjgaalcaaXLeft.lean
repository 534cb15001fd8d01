/- A list of blocks with marks behind it is as it was: left's answer. -/
import Derived.Test.YtihfblnjgaalcaaRL1
import Derived.Test.YtihfblnjgaalcaaXLists
namespace Go.Proofs.Ytihfblnjgaalcaa.OX
open Go Go.RowKit Go.Proofs.Ytihfblnjgaalcaa.R Go.Proofs.Ytihfblnjgaalcaa.OP Go.Proofs.Ytihfblnjgaalcaa.OB
set_option linter.unusedVariables false
set_option linter.unusedSimpArgs false
theorem rd55 {l : List S55} {i : Nat} (h : i < l.length) : rd_T55 l (i : Int) = l[i] := by
 unfold rd_T55
 rw [Int.toNat_natCast, List.getD_eq_getElem?_getD, List.getElem?_eq_getElem h]; rfl
theorem cv_at {l : List S49} {i : Nat} (h : i < l.length) : rd_T55 (cv l ++ marks) (i : Int) = cv1 (rd_T49 l (i : Int)) := by
 rw [rd55 (by rw [marks_length]; omega), rd49 h, List.getElem_append_left (by rw [cv_length]; exact h)]
 unfold cv
 rw [List.getElem_map]
theorem marks_at {l : List S49} {i : Nat} (h : l.length ≤ i) (h2 : i < l.length + 8) : rd_T55 (cv l ++ marks) (i : Int) = ⟨77, 78⟩ := by
 rw [rd55 (by rw [marks_length]; omega), List.getElem_append_right (by rw [cv_length]; exact h)]
 unfold marks
 rw [List.getElem_replicate]
theorem left_l1 (l : List S49) (hl : l.length ≤ 8796093021952) (d : Nat) : ∀ (k i : Nat), i + d = l.length + 8 → l.length ≤ i → d < k → croftlaw11_left.l1 k (cv l ++ marks) l (i : Int) = some true := by
 induction d with
 | zero =>
  intro k i hi hli hk
  obtain ⟨k, rfl⟩ : ∃ m, k = m + 1 := ⟨k - 1, by omega⟩
  rw [croftlaw11_left.l1, if_neg (by rw [marks_length]; omega), marks_length]
  congr 1
  rw [beq_iff_eq]
  unfold wrap64
  omega
 | succ d ih =>
  intro k i hi hli hk
  obtain ⟨k, rfl⟩ : ∃ m, k = m + 1 := ⟨k - 1, by omega⟩
  rw [croftlaw11_left.l1, if_pos (by rw [marks_length]; omega), if_pos (by omega), marks_at hli (by omega), if_pos rfl, if_pos rfl, inc64 (by omega)]
  exact ih k (i + 1) (by omega) (by omega) (by omega)
theorem left_l0 (l : List S49) (hl : l.length ≤ 8796093021952) (d : Nat) : ∀ (k i : Nat), i + d = l.length → d + 10 < k → croftlaw11_left.l0 k (cv l ++ marks) l (i : Int) = some true := by
 induction d with
 | zero =>
  intro k i hi hk
  obtain ⟨k, rfl⟩ : ∃ m, k = m + 1 := ⟨k - 1, by omega⟩
  rw [croftlaw11_left.l0, if_neg (by omega)]
  exact left_l1 l hl 8 k l.length rfl (Nat.le_refl _) (by omega)
 | succ d ih =>
  intro k i hi hk
  obtain ⟨k, rfl⟩ : ∃ m, k = m + 1 := ⟨k - 1, by omega⟩
  rw [croftlaw11_left.l0, if_pos (by omega), if_pos (by omega), if_pos (by rw [marks_length]; omega), cv_at (by omega), if_pos (show (cv1 (rd_T49 l (i : Int))).f0 = (rd_T49 l (i : Int)).f0 from rfl), if_pos (show (cv1 (rd_T49 l (i : Int))).f1 = (rd_T49 l (i : Int)).f1 from rfl), inc64 (by omega)]
  exact ih k (i + 1) (by omega) (by omega)
theorem left_f {l : List S49} (hl : l.length ≤ 8796093021952) {k : Nat} (hk : l.length + 10 < k) : croftlaw11_left.f k (cv l ++ marks) l = some true := by
 unfold croftlaw11_left.f
 exact left_l0 l hl l.length k 0 (by omega) hk
end Go.Proofs.Ytihfblnjgaalcaa.OX
