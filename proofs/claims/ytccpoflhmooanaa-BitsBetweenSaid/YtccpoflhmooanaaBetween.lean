/- BitsBetween, in plain numbers. -/
import Derived.Test.YtccpoflhmooanaaRL1
import Derived.Test.YtccpoflhmooanaaNumC
namespace Go.Proofs.Ytccpoflhmooanaa.Between
open Go.RowKit Go.Proofs.YtccpoflhmooanaaW.PrintWords Go.Proofs.YtccpoflhmooanaaW.PrintLast Go.Proofs.YtccpoflhmooanaaW.PrintMore Go.Proofs.Ytccpoflhmooanaa.Nums Go.Proofs.Ytccpoflhmooanaa.NumF Go.Proofs.Ytccpoflhmooanaa.R
set_option linter.unusedVariables false
set_option linter.unusedSimpArgs false

/-- The last bits of a multiple. -/
theorem and_multiple (n q : Nat) : q * 2 ^ n &&& (2 ^ n - 1) = 0 := by
  rw [Nat.and_two_pow_sub_one_eq_mod]
  exact Nat.mul_mod_left _ _
theorem and_mult (y : Nat) (hy : y < 18446744073709551616) (a : Nat) (ha : IsP a) (ha2 : a < 18446744073709551616) (hm : ∃ q, y = q * a) : Go.bits .and .u64 (y : Int) (IntKind.u64.wrap ((a : Int) - 1)) = 0 := by
  have h0 := Nat.pos_of_isPowerOfTwo ha
  have e : IntKind.u64.wrap ((a : Int) - 1) = ((a - 1 : Nat) : Int) := by rw [wrapu]; omega
  rw [e, and_u64 _ _ hy (by omega)]
  obtain ⟨n, rfl⟩ := ha
  obtain ⟨q, rfl⟩ := hm
  rw [and_multiple]; rfl

theorem BitsBetween : croftlaw1_BitsBetween.Pure := by
  intro a0 a1 w0 w1
  have b0 := bounds_u64 w0
  have b1 := bounds_u64 w1
  obtain ⟨x, rfl⟩ := Int.eq_ofNat_of_zero_le b0.1
  obtain ⟨a, rfl⟩ := Int.eq_ofNat_of_zero_le b1.1
  have hx : x < 18446744073709551616 := by omega
  have ha : a < 18446744073709551616 := by omega
  refine ⟨2, ?_⟩
  unfold croftlaw1_BitsBetween.f croftlaw1_awake.f
  simp only [Option.bind_some, if_true]
  rw [dn_uint64 x a hx ha, up_uint64 1 x a hx ha, isP_uint64 a ha]
  simp only [Option.bind_some, decide_eq_true_eq]
  by_cases h : IsP a
  · have hpos := Nat.pos_of_isPowerOfTwo h
    have l0 : x / a * a ≤ x := Nat.div_mul_le_self _ _
    have l1 : x < x / a * a + a := by
      have := Nat.div_add_mod x a
      have := Nat.mod_lt x hpos
      have e : a * (x / a) = x / a * a := Nat.mul_comm _ _
      omega
    have l2 : x / a * a + a ≤ 2 ^ 64 := by
      obtain ⟨n, hn, rfl⟩ := isP_exp (w := 64) h (by omega)
      exact up_at_most 64 n x hn (by omega)
    have ey : pDn x a = (((x / a * a : Nat) : Int), true) := if_pos h
    have eu : pUp (2 ^ 64) x a = if x / a * a = x then ((x : Int), true) else if 2 ^ 64 ≤ x / a * a + a then (0, false) else (((x / a * a + a : Nat) : Int), true) := if_pos h
    rw [if_pos h, ey, eu]
    have am := and_mult (x / a * a) (by omega) a h ha ⟨_, rfl⟩
    have am2 : x / a * a + a < 18446744073709551616 → Go.bits .and .u64 ((x / a * a + a : Nat) : Int) (IntKind.u64.wrap ((a : Int) - 1)) = 0 := fun hl => and_mult _ hl a h ha ⟨x / a + 1, by rw [Nat.add_mul, Nat.one_mul]⟩
    generalize x / a * a = y at *
    simp only [if_true]
    rw [if_neg (by omega), if_neg (by rw [wrapu]; omega), am]
    simp only [croftlaw1_BitsBetween.j0, bne_self_eq_false, Bool.false_eq_true, if_false]
    by_cases e : y = x
    · subst e
      simp only [if_true]
      rw [if_pos (by omega), if_pos (by rw [wrapu]; omega), am]
      simp
    · rw [if_neg e]
      by_cases h3 : 2 ^ 64 ≤ y + a
      · rw [if_pos h3]
        simp only [if_true, Bool.false_eq_true, if_false]
        rw [if_neg (by omega)]
        congr 1
        rw [beq_iff_eq, wrapu]; omega
      · rw [if_neg h3]
        simp only [if_true]
        rw [if_pos (by omega), if_pos (by rw [wrapu]; omega), am2 (by omega)]
        simp only [if_true]
        have f1 : (((y + a : Nat) : Int) == (y : Int)) = false := by rw [beq_eq_false_iff_ne]; omega
        have f2 : ((y : Int) == (x : Int)) = false := by rw [beq_eq_false_iff_ne]; omega
        rw [f1, f2]; rfl
  · have ey : pDn x a = (0, false) := if_neg h
    have eu : pUp (2 ^ 64) x a = (0, false) := if_neg h
    rw [if_neg h, ey, eu]
    simp

end Go.Proofs.Ytccpoflhmooanaa.Between
