/- Sizes of blocks are powers of 2. -/
import Derived.Test.YtihfblnjgaalcaaOWant
import Derived.Test.YtihfblnjgaalcaaRB1
namespace Go.Proofs.Ytihfblnjgaalcaa.ON
open Go Go.RowKit Go.Maps Go.Proofs.YtihfblnjgaalcaaW.PrintWords Go.Proofs.YtihfblnjgaalcaaW.PrintLast Go.Proofs.YtihfblnjgaalcaaW.PrintMore Go.Proofs.Ytihfblnjgaalcaa.R Go.Proofs.Ytihfblnjgaalcaa.OM Go.Proofs.Ytihfblnjgaalcaa.OP Go.Proofs.Ytihfblnjgaalcaa.OR Go.Proofs.Ytihfblnjgaalcaa.OS Go.Proofs.Ytihfblnjgaalcaa.OB Go.Proofs.Ytihfblnjgaalcaa.OF Go.Proofs.Ytihfblnjgaalcaa.OW
set_option linter.unusedVariables false
set_option linter.unusedSimpArgs false
theorem powB_nat (a : Nat) (ha : a < 18446744073709551616) : powB (a : Int) = decide a.isPowerOfTwo := by
 unfold powB
 by_cases h : a = 0
 ·subst h; decide
 ·rw [if_neg (by omega)]
  rw [show (a : Int) - 1 = ((a - 1 : Nat) : Int) by omega, u64_in (by omega) (by omega), Go.u64_and_nat a (a - 1) ha (by omega)]
  rw [Bool.eq_iff_iff, beq_iff_eq, decide_eq_true_eq, ← Nat.ne_zero_and_sub_one_eq_zero_iff_isPowerOfTwo]
  omega
theorem RR_exp {order : Int} (h0 : 0 ≤ order) : RR order = ((2 ^ (12 + order.toNat) : Nat) : Int) := by
 unfold RR
 rw [Nat.pow_add, Int.natCast_mul]
 simp
theorem sizeB_exp {order s : Int} (h0 : 0 ≤ order) (hs0 : 0 ≤ s) (hs : s < 18446744073709551616) : sizeB order s = true ↔ ∃ e : Nat, 4 ≤ e ∧ e ≤ 12 + order.toNat ∧ s = ((2 ^ e : Nat) : Int) := by
 obtain ⟨a, rfl⟩ := Int.eq_ofNat_of_zero_le hs0
 rw [sizeB_iff, powB_nat a (by omega), decide_eq_true_eq, RR_exp h0]
 constructor
 ·rintro ⟨⟨e, rfl⟩, h1, h2⟩
  refine ⟨e, ?_, ?_, rfl⟩
  ·exact (Nat.pow_le_pow_iff_right (a := 2) (by decide)).1 (show 2 ^ 4 ≤ 2 ^ e by omega)
  ·exact (Nat.pow_le_pow_iff_right (a := 2) (by decide)).1 (show 2 ^ e ≤ 2 ^ (12 + order.toNat) by omega)
 ·rintro ⟨e, h1, h2, h3⟩
  have h4 : a = 2 ^ e := by omega
  subst h4
  have h5 : 2 ^ 4 ≤ 2 ^ e := Nat.pow_le_pow_right (by decide) h1
  have h6 : 2 ^ e ≤ 2 ^ (12 + order.toNat) := Nat.pow_le_pow_right (by decide) h2
  exact ⟨⟨e, rfl⟩, by omega, by omega⟩
theorem size_small {order s : Int} (h0 : 0 ≤ order) (hs0 : 0 ≤ s) (hs : s < 18446744073709551616) (h : sizeB order s = true) (hl : s < 4096) : ∃ k, k < 8 ∧ s = sz8 k := by
 obtain ⟨e, h1, h2, rfl⟩ := (sizeB_exp h0 hs0 hs).1 h
 have h3 : 2 ^ e < 2 ^ 12 := by omega
 have h4 : e < 12 := (Nat.pow_lt_pow_iff_right (a := 2) (by decide)).1 h3
 refine ⟨e - 4, by omega, ?_⟩
 unfold sz8
 rw [show e = 4 + (e - 4) by omega, Nat.pow_add, Int.natCast_mul]
 simp
theorem size_big {order s : Int} (h0 : 0 ≤ order) (hs0 : 0 ≤ s) (hs : s < 18446744073709551616) (h : sizeB order s = true) (hl : ¬ s < 4096) : ∃ j : Nat, j ≤ order.toNat ∧ s = ((4096 * 2 ^ j : Nat) : Int) := by
 obtain ⟨e, h1, h2, rfl⟩ := (sizeB_exp h0 hs0 hs).1 h
 have h3 : 2 ^ 12 ≤ 2 ^ e := by omega
 have h4 : 12 ≤ e := (Nat.pow_le_pow_iff_right (a := 2) (by decide)).1 h3
 refine ⟨e - 12, by omega, ?_⟩
 rw [show e = 12 + (e - 12) by omega, Nat.pow_add]
 simp
theorem sz8_size {order : Int} (h0 : 0 ≤ order) (h8 : order ≤ 8) {k : Nat} (hk : k < 8) : sizeB order (sz8 k) = true := by
 have h1 : (sz8 k) = ((2 ^ (4 + k) : Nat) : Int) := by unfold sz8; rw [Nat.pow_add, Int.natCast_mul]; simp
 have h2 := sz8_cells hk
 exact (sizeB_exp h0 (by omega) (by omega)).2 ⟨4 + k, by omega, by omega, h1⟩
theorem bitLen_pow (j : Nat) (hj : j ≤ 8) : Lib.bitLen (2 ^ j) = j + 1 := by
 have : j = 0 ∨ j = 1 ∨ j = 2 ∨ j = 3 ∨ j = 4 ∨ j = 5 ∨ j = 6 ∨ j = 7 ∨ j = 8 := by omega
 rcases this with rfl | rfl | rfl | rfl | rfl | rfl | rfl | rfl | rfl <;> decide
theorem log_c (j : Nat) (hj : j ≤ 8) (w : World) : Calls Try.prog 54 #[.int .u64 ((2 ^ j : Nat) : Int)] w fun e w' => e = .returned (.int .i64 (j : Int)) ∧ Drawn0 w w' := by
 refine bits_Log_uint64.calls 1 _ _ w ?_
 have hb : 2 ^ j ≤ 2 ^ 8 := Nat.pow_le_pow_right (by decide) hj
 unfold bits_Log_uint64.f bits_Len64.f
 rw [if_pos ⟨Int.natCast_nonneg _, Int.le_trans (Int.ofNat_le.2 hb) (by decide)⟩, Int.toNat_natCast, bitLen_pow j hj]
 simp only [Option.bind_some]
 congr 1
 unfold wrap64; omega
end Go.Proofs.Ytihfblnjgaalcaa.ON
