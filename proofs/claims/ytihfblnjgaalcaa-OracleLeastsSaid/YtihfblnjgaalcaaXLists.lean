/- The law's own lists, plain: blocks, a list from its end; awake(). -/
import Derived.Test.YtihfblnjgaalcaaRC1
namespace Go.Proofs.Ytihfblnjgaalcaa.OX
open Go Go.RowKit Go.Proofs.YtihfblnjgaalcaaW.PrintWords Go.Proofs.YtihfblnjgaalcaaW.PrintLast Go.Proofs.YtihfblnjgaalcaaW.PrintMore Go.Proofs.Ytihfblnjgaalcaa.R Go.Proofs.Ytihfblnjgaalcaa.OP Go.Proofs.Ytihfblnjgaalcaa.OB
set_option linter.unusedVariables false
set_option linter.unusedSimpArgs false
theorem awake_f : croftlaw11_awake.f 10 = some true := by decide +kernel
theorem awake_le (k : Nat) : croftlaw11_awake.f (10 + k) = some true := by
 induction k with
 | zero => exact awake_f
 | succ k ih => exact croftlaw11_awake.mono (10 + k) _ ih
theorem awake_ge {k : Nat} (h : 10 ≤ k) : croftlaw11_awake.f k = some true := by
 have := awake_le (k - 10)
 rwa [show 10 + (k - 10) = k by omega] at this
/-- api's blocks of the reference's. -/
def cv1 (b : S49) : S55 := ⟨b.f0, b.f1⟩
def cv (l : List S49) : List S55 := l.map cv1
theorem cv_length (l : List S49) : (cv l).length = l.length := List.length_map ..
def marks : List S55 := List.replicate 8 ⟨77, 78⟩
/-- What comes in is as it is in Go. -/
def Wd49 (l : List S49) : Prop := ∀ b ∈ l, (0 ≤ b.f0 ∧ b.f0 < 18446744073709551616) ∧ (0 ≤ b.f1 ∧ b.f1 < 18446744073709551616)
theorem cv_wd {l : List S49} (h : Wd49 l) : Wd (cv l) := by
 intro b hb
 obtain ⟨c, hc, rfl⟩ := List.mem_map.1 hb
 exact h c hc
theorem rd49 {l : List S49} {i : Nat} (h : i < l.length) : rd_T49 l (i : Int) = l[i] := by
 unfold rd_T49
 rw [Int.toNat_natCast, List.getD_eq_getElem?_getD, List.getElem?_eq_getElem h]; rfl
theorem rdI {l : List Int} {i : Nat} (h : i < l.length) : rd l (i : Int) = l[i] := by
 unfold rd
 rw [Int.toNat_natCast, List.getD_eq_getElem?_getD, List.getElem?_eq_getElem h]; rfl
theorem inc64 {i : Nat} (h : i < 9223372036854775807) : wrap64 ((i : Int) + 1) = ((i + 1 : Nat) : Int) := by unfold wrap64; omega
theorem blocks_l1 (d : Nat) : ∀ (k i : Nat) (a : List S55), i + d = 8 → d < k → a.length + d ≤ 8796093022208 → croftlaw11_blocks.l1 k a (i : Int) = some (a ++ List.replicate d ⟨77, 78⟩) := by
 induction d with
 | zero =>
  intro k i a hi hk ha
  obtain ⟨k, rfl⟩ : ∃ m, k = m + 1 := ⟨k - 1, by omega⟩
  obtain rfl : i = 8 := hi
  rw [croftlaw11_blocks.l1, if_neg (by decide)]
  simp
 | succ d ih =>
  intro k i a hi hk ha
  obtain ⟨k, rfl⟩ : ∃ m, k = m + 1 := ⟨k - 1, by omega⟩
  rw [croftlaw11_blocks.l1, if_pos (by omega), if_pos (by omega), inc64 (by omega), ih k (i + 1) _ (by omega) (by omega) (by rw [List.length_append, List.length_singleton]; omega)]
  rw [List.append_assoc, List.replicate_succ]
  rfl
theorem take_snoc {l : List S49} {i : Nat} (h : i < l.length) : cv (l.take i) ++ [(⟨(rd_T49 l (i : Int)).f0, (rd_T49 l (i : Int)).f1⟩ : S55)] = cv (l.take (i + 1)) := by
 rw [rd49 h, List.take_succ_eq_append_getElem h]
 unfold cv
 rw [List.map_append]
 rfl
theorem blocks_l0 (l : List S49) (hl : l.length ≤ 8796093021952) (d : Nat) : ∀ (k i : Nat), i + d = l.length → d + 10 < k → croftlaw11_blocks.l0 k l (cv (l.take i)) (i : Int) = some (cv l ++ marks) := by
 induction d with
 | zero =>
  intro k i hi hk
  obtain ⟨k, rfl⟩ : ∃ m, k = m + 1 := ⟨k - 1, by omega⟩
  obtain rfl : i = l.length := hi
  rw [croftlaw11_blocks.l0, if_neg (by omega), List.take_length]
  exact blocks_l1 8 k 0 (cv l) rfl (by omega) (by rw [cv_length]; omega)
 | succ d ih =>
  intro k i hi hk
  obtain ⟨k, rfl⟩ : ∃ m, k = m + 1 := ⟨k - 1, by omega⟩
  rw [croftlaw11_blocks.l0, if_pos (by omega), if_pos (by omega), if_pos (by rw [cv_length, List.length_take]; omega), take_snoc (by omega), inc64 (by omega)]
  exact ih k (i + 1) (by omega) (by omega)
theorem blocks_f {l : List S49} (hl : l.length ≤ 8796093021952) {k : Nat} (hk : l.length + 10 < k) : croftlaw11_blocks.f k l = some (cv l ++ marks) := by
 unfold croftlaw11_blocks.f
 exact blocks_l0 l hl l.length k 0 (by omega) hk
theorem take_cv (l : List S49) (n : Nat) (h : n = l.length) : (cv l ++ marks).take ((n : Int)).toNat = cv l := by
 subst h
 rw [Int.toNat_natCast, ← cv_length l, List.take_left']
 rfl
theorem marks_length (l : List S49) : (cv l ++ marks).length = l.length + 8 := by
 rw [List.length_append, cv_length]; rfl
theorem good_cv {base : Int} {l : List S49} (hb0 : 0 ≤ base) (hb : base < 18446744073709551616) (hw : Wd49 l) (hl : l.length ≤ 8796093021952) : OC.Good base (cv l) :=
 ⟨⟨hb0, hb⟩, cv_wd hw, by rw [cv_length]; omega⟩
theorem least_fr {base limit order : Int} {l : List S49} {z : List Int} (hb0 : 0 ≤ base) (hb : base < 18446744073709551616) (hw : Wd49 l) (hl : l.length ≤ 8796093021952) (hz : z.length ≤ 17592186044416) (hzw : ∀ x ∈ z, 0 ≤ x ∧ x < 18446744073709551616) : oracle_Least.f base limit order (cv l) z = some (OC.leastI base limit order (cv l) z) := by
 unfold oracle_Least.f; rw [if_pos ⟨good_cv hb0 hb hw hl, hz, hzw⟩]
end Go.Proofs.Ytihfblnjgaalcaa.OX
