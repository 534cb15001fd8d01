/- What the calls on numbers come to, program and document: plain. -/
import Derived.Test.YtccpoflhmooanaaR3
import Derived.Test.YtccpoflhmooanaaPop
import Derived.Test.YtccpoflhmooanaaNums
import Derived.OpenShut
namespace Go.Proofs.Ytccpoflhmooanaa.NumF
open Go.RowKit Go.Proofs.Ytccpoflhmooanaa.R Go.Proofs.YtccpoflhmooanaaW.PrintWords Go.Proofs.YtccpoflhmooanaaW.PrintLast Go.Proofs.YtccpoflhmooanaaW.PrintMore Go.Proofs.Ytccpoflhmooanaa.Nums
set_option linter.unusedVariables false
set_option linter.unusedSimpArgs false

theorem wrap_u64 (n : Int) : IntKind.u64.wrap n = n % 18446744073709551616 := by simp [IntKind.wrap, IntKind.bits, IntKind.signed]
theorem u64_id {n : Nat} (h : n < 18446744073709551616) : IntKind.u64.wrap (n : Int) = n := by rw [wrap_u64]; omega
theorem wrap64_id {n : Nat} (h : n < 9223372036854775807) : wrap64 ((n : Int) + 1) = ((n + 1 : Nat) : Int) := by unfold wrap64; omega

theorem power_tells (d : Nat) : ∀ (k i n : Nat), i + d = n → n < 64 → d < k → croftref1_Power.l0 k (n : Int) ((2 ^ i : Nat) : Int) (i : Int) = some ((2 ^ n : Nat) : Int) := by
  induction d with
  | zero =>
    intro k i n hi hn hk
    obtain ⟨k, rfl⟩ : ∃ m, k = m + 1 := ⟨k - 1, by omega⟩
    obtain rfl : i = n := by omega
    simp only [croftref1_Power.l0]; rw [if_neg (by omega)]
  | succ d ih =>
    intro k i n hi hn hk
    obtain ⟨k, rfl⟩ : ∃ m, k = m + 1 := ⟨k - 1, by omega⟩
    simp only [croftref1_Power.l0]; rw [if_pos (by omega), wrap64_id (by omega)]
    have e : IntKind.u64.wrap (((2 ^ i : Nat) : Int) * 2) = ((2 ^ (i + 1) : Nat) : Int) := by
      have h1 : 2 ^ (i + 1) < 2 ^ 64 := Nat.pow_lt_pow_right (by omega) (by omega)
      rw [wrap_u64, Nat.pow_succ]; rw [Nat.pow_succ] at h1; omega
    rw [e]
    exact ih k (i + 1) n (by omega) hn (by omega)
theorem power_f (k n : Nat) (hn : n < 64) (hk : 64 < k) : croftref1_Power.f k (n : Int) = some ((2 ^ n : Nat) : Int) := by
  unfold croftref1_Power.f
  exact power_tells n k 0 n (by omega) hn (by omega)

theorem rIsPower_tells (a w : Nat) (hw : w ≤ 64) (d : Nat) : ∀ (k i : Nat), i + d = w → (∀ j, j < i → a ≠ 2 ^ j) → d + 64 < k →
    croftref1_IsPower.l0 k (a : Int) (w : Int) (i : Int) = some (decide (∃ j, j < w ∧ a = 2 ^ j)) := by
  induction d with
  | zero =>
    intro k i hi hno hk
    obtain ⟨k, rfl⟩ : ∃ m, k = m + 1 := ⟨k - 1, by omega⟩
    simp only [croftref1_IsPower.l0]; rw [if_neg (by omega)]
    rw [decide_eq_false]
    rintro ⟨j, hj, e⟩; exact hno j (by omega) e
  | succ d ih =>
    intro k i hi hno hk
    obtain ⟨k, rfl⟩ : ∃ m, k = m + 1 := ⟨k - 1, by omega⟩
    simp only [croftref1_IsPower.l0]; rw [if_pos (by omega), power_f k i (by omega) (by omega)]
    simp only [Option.bind_some]
    by_cases e : a = 2 ^ i
    · rw [if_pos (by omega), decide_eq_true ⟨i, by omega, e⟩]
    · rw [if_neg (by omega), wrap64_id (by omega)]
      refine ih k (i + 1) (by omega) (fun j hj => ?_) (by omega)
      by_cases h : j = i
      · rw [h]; exact e
      · exact hno j (by omega)
theorem rIsPower_f (k a w : Nat) (hw : w ≤ 64) (ha : a < 2 ^ w) (hk : 200 < k) : croftref1_IsPower.f k (a : Int) (w : Int) = some (decide (IsP a)) := by
  unfold croftref1_IsPower.f
  rw [show (0 : Int) = ((0 : Nat) : Int) from rfl, rIsPower_tells a w hw w k 0 (by omega) (fun j hj => by omega) (by omega)]
  congr 1
  rw [decide_eq_decide]
  constructor
  · rintro ⟨j, _, e⟩; exact ⟨j, e⟩
  · intro h; exact isP_exp h ha

theorem rDown_f (k x a w : Nat) (hw : w ≤ 64) (hx : x < 2 ^ w) (ha : a < 2 ^ w) (hk : 200 < k) : croftref1_Down.f k (x : Int) (a : Int) (w : Int) = some (pDn x a) := by
  have hw2 : 2 ^ w ≤ 2 ^ 64 := Nat.pow_le_pow_right (by omega) hw
  unfold croftref1_Down.f pDn
  rw [rIsPower_f k a w hw ha hk]
  simp only [Option.bind_some, decide_eq_true_eq]
  by_cases h : IsP a
  · rw [if_pos h, if_pos h]
    have hpos : a ≠ 0 := by have := Nat.pos_of_isPowerOfTwo h; omega
    rw [if_neg (by omega)]
    have e1 : Int.tdiv (x : Int) (a : Int) = ((x / a : Nat) : Int) := by simp [Int.ofNat_tdiv]
    have l1 : x / a ≤ x := Nat.div_le_self _ _
    have l2 : x / a * a ≤ x := Nat.div_mul_le_self _ _
    rw [e1, u64_id (by omega)]
    rw [show ((x / a : Nat) : Int) * (a : Int) = ((x / a * a : Nat) : Int) by simp, u64_id (by omega)]
  · rw [if_neg h, if_neg h]

theorem cut_top (w : Nat) (hw : w = 8 ∨ w = 16 ∨ w = 32 ∨ w = 64) : croftref1_Cut.f 18446744073709551615 (w : Int) = some ((2 ^ w - 1 : Nat) : Int) := by
  rcases hw with rfl | rfl | rfl | rfl <;> decide +kernel
theorem cut_f (x w : Nat) (hx : x < 18446744073709551616) (hw : w = 8 ∨ w = 16 ∨ w = 32 ∨ w = 64) : croftref1_Cut.f (x : Int) (w : Int) = some ((x % 2 ^ w : Nat) : Int) := by
  have key : ∀ n : Nat, n < 64 → IntKind.u64.wrap (shl .u64 1 (n : Int) - 1) = ((2 ^ n - 1 : Nat) : Int) := by
    intro n hn
    have h1 : 2 ^ n < 2 ^ 64 := Nat.pow_lt_pow_right (by omega) hn
    have h0 : 0 < 2 ^ n := Nat.pow_pos (by omega)
    have e : shl .u64 1 (n : Int) = ((2 ^ n : Nat) : Int) := by
      unfold shl
      rw [Int.toNat_natCast, Nat.min_eq_left (show n ≤ IntKind.u64.bits by simp [IntKind.bits]; omega), Int.one_mul, wrap_u64]
      have : ((2 : Int) ^ n) = ((2 ^ n : Nat) : Int) := by simp
      rw [this]; omega
    rw [e, wrap_u64]; omega
  unfold croftref1_Cut.f
  rcases hw with rfl | rfl | rfl | rfl
  all_goals first
    | (rw [if_pos (by rfl)]; congr 1; omega)
    | (rw [if_neg (by decide), if_pos (by decide), key _ (by omega), Go.u64_and_nat _ _ hx (by omega)]
       rw [Nat.and_two_pow_sub_one_eq_mod])

theorem rUp_f (k x a w : Nat) (hw : w = 8 ∨ w = 16 ∨ w = 32 ∨ w = 64) (hx : x < 2 ^ w) (ha : a < 2 ^ w) (hk : 201 < k) : croftref1_Up.f k (x : Int) (a : Int) (w : Int) = some (pUp (2 ^ w) x a) := by
  have hw64 : w ≤ 64 := by omega
  have hw2 : 2 ^ w ≤ 2 ^ 64 := Nat.pow_le_pow_right (by omega) hw64
  obtain ⟨k, rfl⟩ : ∃ m, k = m + 1 := ⟨k - 1, by omega⟩
  unfold croftref1_Up.f pUp
  rw [rDown_f (k + 1) x a w hw64 hx ha (by omega)]
  simp only [Option.bind_some, pDn]
  by_cases h : IsP a
  · rw [if_pos h, if_pos h]
    simp only [if_true]
    by_cases e : x / a * a = x
    · rw [if_pos e]
      have eb : ((((x / a * a : Nat) : Int)) == (x : Int)) = true := by rw [beq_iff_eq]; omega
      rw [eb]
      simp only [croftref1_Up.j0, if_true]
      rw [e]
    · have eb : ((((x / a * a : Nat) : Int)) == (x : Int)) = false := by rw [beq_eq_false_iff_ne]; omega
      rw [if_neg e, eb]
      simp only [croftref1_Up.j0, Bool.false_eq_true, if_false]
      rw [cut_top w hw]
      simp only [Option.bind_some]
      have l2 : x / a * a ≤ x := Nat.div_mul_le_self _ _
      have e2 : IntKind.u64.wrap (((2 ^ w - 1 : Nat) : Int) - ((x / a * a : Nat) : Int)) = ((2 ^ w - 1 - x / a * a : Nat) : Int) := by rw [wrap_u64]; omega
      rw [e2]
      by_cases h3 : 2 ^ w ≤ x / a * a + a
      · rw [if_pos (by omega), if_pos h3]
      · rw [if_neg (by omega), if_neg h3]
        congr 2
        rw [wrap_u64]; omega
  · rw [if_neg h, if_neg h]
    simp only [Bool.false_eq_true, if_false, croftref1_Up.j0, if_true]


theorem isP_uint8 (a : Nat) (ha : a < 256) : bits_IsPower_uint8.f (a : Int) = some (decide (IsP a)) := by
  unfold bits_IsPower_uint8.f
  by_cases h : a = 0
  · subst h; decide
  · rw [if_neg (by omega)]
    have e : ((a : Int) - 1) % 256 = ((a - 1 : Nat) : Int) := by first | omega | (rw [IntKind.wrap_u16]; omega) | (rw [wrap_u64]; omega)
    rw [e, Go.u8_and_nat a (a - 1) ha (by omega)]
    congr 1
    rw [Bool.eq_iff_iff, beq_iff_eq, decide_eq_true_eq, ← isP_iff]
    omega
theorem dn_uint8 (x a : Nat) (hx : x < 256) (ha : a < 256) : bits_Down_uint8.f (x : Int) (a : Int) = some (pDn x a) := by
  unfold bits_Down_uint8.f pDn
  rw [isP_uint8 a ha]
  simp only [Option.bind_some, decide_eq_true_eq]
  by_cases h : IsP a
  · rw [if_pos h, if_pos h]
    have e : ((a : Int) - 1) % 256 = ((a - 1 : Nat) : Int) := by have := Nat.pos_of_isPowerOfTwo h; first | omega | (rw [IntKind.wrap_u16]; omega) | (rw [wrap_u64]; omega)
    rw [e, Go.u8_andNot_nat x (a - 1) hx (by omega)]
    obtain ⟨n, hn, rfl⟩ := isP_exp (w := 8) h (by omega)
    have := andNot_pow 8 n x (by omega) (by omega)
    rw [← this]
  · rw [if_neg h, if_neg h]
theorem up_uint8 (k x a : Nat) (hx : x < 256) (ha : a < 256) : bits_Up_uint8.f (k + 1) (x : Int) (a : Int) = some (pUp (2 ^ 8) x a) := by
  unfold bits_Up_uint8.f pUp
  rw [dn_uint8 x a hx ha]
  simp only [Option.bind_some, pDn]
  by_cases h : IsP a
  · rw [if_pos h, if_pos h]
    simp only [if_true]
    by_cases e : x / a * a = x
    · rw [if_pos e]
      have eb : ((((x / a * a : Nat) : Int)) == (x : Int)) = true := by rw [beq_iff_eq]; omega
      rw [eb]
      simp only [bits_Up_uint8.j0, if_true]
      rw [e]
    · have eb : ((((x / a * a : Nat) : Int)) == (x : Int)) = false := by rw [beq_eq_false_iff_ne]; omega
      rw [if_neg e, eb]
      simp only [bits_Up_uint8.j0, Bool.false_eq_true, if_false]
      have l1 : x / a * a + a ≤ 2 ^ 8 := by
        obtain ⟨n, hn, rfl⟩ := isP_exp (w := 8) h (by omega)
        exact up_at_most 8 n x hn (by omega)
      have hpos := Nat.pos_of_isPowerOfTwo h
      by_cases h3 : 2 ^ 8 ≤ x / a * a + a
      · rw [if_pos (by omega), if_pos h3]
      · rw [if_neg (by omega), if_neg h3]
        congr 2
        omega
  · rw [if_neg h, if_neg h]
    simp only [Bool.false_eq_true, if_false, bits_Up_uint8.j0, if_true]

theorem fit_uint8 (x a : Nat) (hx : x < 256) (ha : a < 256) : 0 ≤ (pUp (2 ^ 8) x a).1 ∧ (pUp (2 ^ 8) x a).1 < 18446744073709551616 ∧ 0 ≤ (pDn x a).1 ∧ (pDn x a).1 < 18446744073709551616 := by
  have l2 : x / a * a ≤ x := Nat.div_mul_le_self _ _
  unfold pUp pDn
  by_cases h : IsP a
  · simp only [if_pos h]
    by_cases e : x / a * a = x
    · simp only [if_pos e]; omega
    · simp only [if_neg e]
      by_cases h3 : 2 ^ 8 ≤ x / a * a + a
      · simp only [if_pos h3]; omega
      · simp only [if_neg h3]; omega
  · simp only [if_neg h]; omega
theorem mul_uint8 (k x a : Nat) (hx : x < 18446744073709551616) (ha : a < 18446744073709551616) (hk : 300 < k) : croftlaw1_multiples_uint8.f k (x : Int) (a : Int) 8 = some true := by
  obtain ⟨k, rfl⟩ : ∃ m, k = m + 1 := ⟨k - 1, by omega⟩
  have q1 := cut_f x 8 hx (by omega)
  have q2 := cut_f a 8 ha (by omega)
  have c1 : ((x : Int) % 256) = ((x % 2 ^ 8 : Nat) : Int) := by first | omega | (rw [IntKind.wrap_u16]; omega) | (rw [wrap_u64]; omega)
  have c2 : ((a : Int) % 256) = ((a % 2 ^ 8 : Nat) : Int) := by first | omega | (rw [IntKind.wrap_u16]; omega) | (rw [wrap_u64]; omega)
  have f1 := fit_uint8 (x % 2 ^ 8) (a % 2 ^ 8) (by omega) (by omega)
  have wu : IntKind.u64.wrap (pUp (2 ^ 8) (x % 2 ^ 8) (a % 2 ^ 8)).1 = (pUp (2 ^ 8) (x % 2 ^ 8) (a % 2 ^ 8)).1 := by rw [wrap_u64]; omega
  have wd : IntKind.u64.wrap (pDn (x % 2 ^ 8) (a % 2 ^ 8)).1 = (pDn (x % 2 ^ 8) (a % 2 ^ 8)).1 := by rw [wrap_u64]; omega
  have u1 := up_uint8 k (x % 2 ^ 8) (a % 2 ^ 8) (by omega) (by omega)
  have u2 := rUp_f (k + 1) (x % 2 ^ 8) (a % 2 ^ 8) 8 (by omega) (by omega) (by omega) (by omega)
  have d1 := dn_uint8 (x % 2 ^ 8) (a % 2 ^ 8) (by omega) (by omega)
  have d2 := rDown_f k (x % 2 ^ 8) (a % 2 ^ 8) 8 (by omega) (by omega) (by omega) (by omega)
  skip
  unfold croftlaw1_multiples_uint8.f
  rw [show (8 : Int) = ((8 : Nat) : Int) from rfl, q1, q2]
  simp only [Option.bind_some]
  rw [c1, c2]
  rw [u1, u2]
  simp only [Option.bind_some, wu]
  simp only [if_true, bne_self_eq_false, croftlaw1_multiples_uint8.j0, Bool.false_eq_true, if_false]
  rw [c1, c2]
  rw [d1, d2]
  simp only [Option.bind_some, wd]
  simp only [if_true, beq_self_eq_true]

theorem isP_uint16 (a : Nat) (ha : a < 65536) : bits_IsPower_uint16.f (a : Int) = some (decide (IsP a)) := by
  unfold bits_IsPower_uint16.f
  by_cases h : a = 0
  · subst h; decide
  · rw [if_neg (by omega)]
    have e : IntKind.u16.wrap ((a : Int) - 1) = ((a - 1 : Nat) : Int) := by first | omega | (rw [IntKind.wrap_u16]; omega) | (rw [wrap_u64]; omega)
    rw [e, Go.u16_and_nat a (a - 1) ha (by omega)]
    congr 1
    rw [Bool.eq_iff_iff, beq_iff_eq, decide_eq_true_eq, ← isP_iff]
    omega
theorem dn_uint16 (x a : Nat) (hx : x < 65536) (ha : a < 65536) : bits_Down_uint16.f (x : Int) (a : Int) = some (pDn x a) := by
  unfold bits_Down_uint16.f pDn
  rw [isP_uint16 a ha]
  simp only [Option.bind_some, decide_eq_true_eq]
  by_cases h : IsP a
  · rw [if_pos h, if_pos h]
    have e : IntKind.u16.wrap ((a : Int) - 1) = ((a - 1 : Nat) : Int) := by have := Nat.pos_of_isPowerOfTwo h; first | omega | (rw [IntKind.wrap_u16]; omega) | (rw [wrap_u64]; omega)
    rw [e, Go.u16_andNot_nat x (a - 1) hx (by omega)]
    obtain ⟨n, hn, rfl⟩ := isP_exp (w := 16) h (by omega)
    have := andNot_pow 16 n x (by omega) (by omega)
    rw [← this]
  · rw [if_neg h, if_neg h]
theorem up_uint16 (k x a : Nat) (hx : x < 65536) (ha : a < 65536) : bits_Up_uint16.f (k + 1) (x : Int) (a : Int) = some (pUp (2 ^ 16) x a) := by
  unfold bits_Up_uint16.f pUp
  rw [dn_uint16 x a hx ha]
  simp only [Option.bind_some, pDn]
  by_cases h : IsP a
  · rw [if_pos h, if_pos h]
    simp only [if_true]
    by_cases e : x / a * a = x
    · rw [if_pos e]
      have eb : ((((x / a * a : Nat) : Int)) == (x : Int)) = true := by rw [beq_iff_eq]; omega
      rw [eb]
      simp only [bits_Up_uint16.j0, if_true]
      rw [e]
    · have eb : ((((x / a * a : Nat) : Int)) == (x : Int)) = false := by rw [beq_eq_false_iff_ne]; omega
      rw [if_neg e, eb]
      simp only [bits_Up_uint16.j0, Bool.false_eq_true, if_false]
      have l1 : x / a * a + a ≤ 2 ^ 16 := by
        obtain ⟨n, hn, rfl⟩ := isP_exp (w := 16) h (by omega)
        exact up_at_most 16 n x hn (by omega)
      have hpos := Nat.pos_of_isPowerOfTwo h
      by_cases h3 : 2 ^ 16 ≤ x / a * a + a
      · rw [if_pos (by rw [IntKind.wrap_u16]; omega), if_pos h3]
      · rw [if_neg (by rw [IntKind.wrap_u16]; omega), if_neg h3]
        congr 2
        rw [IntKind.wrap_u16]; omega
  · rw [if_neg h, if_neg h]
    simp only [Bool.false_eq_true, if_false, bits_Up_uint16.j0, if_true]

theorem fit_uint16 (x a : Nat) (hx : x < 65536) (ha : a < 65536) : 0 ≤ (pUp (2 ^ 16) x a).1 ∧ (pUp (2 ^ 16) x a).1 < 18446744073709551616 ∧ 0 ≤ (pDn x a).1 ∧ (pDn x a).1 < 18446744073709551616 := by
  have l2 : x / a * a ≤ x := Nat.div_mul_le_self _ _
  unfold pUp pDn
  by_cases h : IsP a
  · simp only [if_pos h]
    by_cases e : x / a * a = x
    · simp only [if_pos e]; omega
    · simp only [if_neg e]
      by_cases h3 : 2 ^ 16 ≤ x / a * a + a
      · simp only [if_pos h3]; omega
      · simp only [if_neg h3]; omega
  · simp only [if_neg h]; omega
theorem mul_uint16 (k x a : Nat) (hx : x < 18446744073709551616) (ha : a < 18446744073709551616) (hk : 300 < k) : croftlaw1_multiples_uint16.f k (x : Int) (a : Int) 16 = some true := by
  obtain ⟨k, rfl⟩ : ∃ m, k = m + 1 := ⟨k - 1, by omega⟩
  have q1 := cut_f x 16 hx (by omega)
  have q2 := cut_f a 16 ha (by omega)
  have c1 : (IntKind.u16.wrap (x : Int)) = ((x % 2 ^ 16 : Nat) : Int) := by first | omega | (rw [IntKind.wrap_u16]; omega) | (rw [wrap_u64]; omega)
  have c2 : (IntKind.u16.wrap (a : Int)) = ((a % 2 ^ 16 : Nat) : Int) := by first | omega | (rw [IntKind.wrap_u16]; omega) | (rw [wrap_u64]; omega)
  have f1 := fit_uint16 (x % 2 ^ 16) (a % 2 ^ 16) (by omega) (by omega)
  have wu : IntKind.u64.wrap (pUp (2 ^ 16) (x % 2 ^ 16) (a % 2 ^ 16)).1 = (pUp (2 ^ 16) (x % 2 ^ 16) (a % 2 ^ 16)).1 := by rw [wrap_u64]; omega
  have wd : IntKind.u64.wrap (pDn (x % 2 ^ 16) (a % 2 ^ 16)).1 = (pDn (x % 2 ^ 16) (a % 2 ^ 16)).1 := by rw [wrap_u64]; omega
  have u1 := up_uint16 k (x % 2 ^ 16) (a % 2 ^ 16) (by omega) (by omega)
  have u2 := rUp_f (k + 1) (x % 2 ^ 16) (a % 2 ^ 16) 16 (by omega) (by omega) (by omega) (by omega)
  have d1 := dn_uint16 (x % 2 ^ 16) (a % 2 ^ 16) (by omega) (by omega)
  have d2 := rDown_f k (x % 2 ^ 16) (a % 2 ^ 16) 16 (by omega) (by omega) (by omega) (by omega)
  skip
  unfold croftlaw1_multiples_uint16.f
  rw [show (16 : Int) = ((16 : Nat) : Int) from rfl, q1, q2]
  simp only [Option.bind_some]
  rw [c1, c2]
  rw [u1, u2]
  simp only [Option.bind_some, wu]
  simp only [if_true, bne_self_eq_false, croftlaw1_multiples_uint16.j0, Bool.false_eq_true, if_false]
  rw [c1, c2]
  rw [d1, d2]
  simp only [Option.bind_some, wd]
  simp only [if_true, beq_self_eq_true]

theorem isP_uint32 (a : Nat) (ha : a < 4294967296) : bits_IsPower_uint32.f (a : Int) = some (decide (IsP a)) := by
  unfold bits_IsPower_uint32.f
  by_cases h : a = 0
  · subst h; decide
  · rw [if_neg (by omega)]
    have e : ((a : Int) - 1) % 4294967296 = ((a - 1 : Nat) : Int) := by first | omega | (rw [IntKind.wrap_u16]; omega) | (rw [wrap_u64]; omega)
    rw [e, Go.u32_and_nat a (a - 1) ha (by omega)]
    congr 1
    rw [Bool.eq_iff_iff, beq_iff_eq, decide_eq_true_eq, ← isP_iff]
    omega
theorem dn_uint32 (x a : Nat) (hx : x < 4294967296) (ha : a < 4294967296) : bits_Down_uint32.f (x : Int) (a : Int) = some (pDn x a) := by
  unfold bits_Down_uint32.f pDn
  rw [isP_uint32 a ha]
  simp only [Option.bind_some, decide_eq_true_eq]
  by_cases h : IsP a
  · rw [if_pos h, if_pos h]
    have e : ((a : Int) - 1) % 4294967296 = ((a - 1 : Nat) : Int) := by have := Nat.pos_of_isPowerOfTwo h; first | omega | (rw [IntKind.wrap_u16]; omega) | (rw [wrap_u64]; omega)
    rw [e, Go.u32_andNot_nat x (a - 1) hx (by omega)]
    obtain ⟨n, hn, rfl⟩ := isP_exp (w := 32) h (by omega)
    have := andNot_pow 32 n x (by omega) (by omega)
    rw [← this]
  · rw [if_neg h, if_neg h]
theorem up_uint32 (k x a : Nat) (hx : x < 4294967296) (ha : a < 4294967296) : bits_Up_uint32.f (k + 1) (x : Int) (a : Int) = some (pUp (2 ^ 32) x a) := by
  unfold bits_Up_uint32.f pUp
  rw [dn_uint32 x a hx ha]
  simp only [Option.bind_some, pDn]
  by_cases h : IsP a
  · rw [if_pos h, if_pos h]
    simp only [if_true]
    by_cases e : x / a * a = x
    · rw [if_pos e]
      have eb : ((((x / a * a : Nat) : Int)) == (x : Int)) = true := by rw [beq_iff_eq]; omega
      rw [eb]
      simp only [bits_Up_uint32.j0, if_true]
      rw [e]
    · have eb : ((((x / a * a : Nat) : Int)) == (x : Int)) = false := by rw [beq_eq_false_iff_ne]; omega
      rw [if_neg e, eb]
      simp only [bits_Up_uint32.j0, Bool.false_eq_true, if_false]
      have l1 : x / a * a + a ≤ 2 ^ 32 := by
        obtain ⟨n, hn, rfl⟩ := isP_exp (w := 32) h (by omega)
        exact up_at_most 32 n x hn (by omega)
      have hpos := Nat.pos_of_isPowerOfTwo h
      by_cases h3 : 2 ^ 32 ≤ x / a * a + a
      · rw [if_pos (by omega), if_pos h3]
      · rw [if_neg (by omega), if_neg h3]
        congr 2
        omega
  · rw [if_neg h, if_neg h]
    simp only [Bool.false_eq_true, if_false, bits_Up_uint32.j0, if_true]

theorem fit_uint32 (x a : Nat) (hx : x < 4294967296) (ha : a < 4294967296) : 0 ≤ (pUp (2 ^ 32) x a).1 ∧ (pUp (2 ^ 32) x a).1 < 18446744073709551616 ∧ 0 ≤ (pDn x a).1 ∧ (pDn x a).1 < 18446744073709551616 := by
  have l2 : x / a * a ≤ x := Nat.div_mul_le_self _ _
  unfold pUp pDn
  by_cases h : IsP a
  · simp only [if_pos h]
    by_cases e : x / a * a = x
    · simp only [if_pos e]; omega
    · simp only [if_neg e]
      by_cases h3 : 2 ^ 32 ≤ x / a * a + a
      · simp only [if_pos h3]; omega
      · simp only [if_neg h3]; omega
  · simp only [if_neg h]; omega
theorem mul_uint32 (k x a : Nat) (hx : x < 18446744073709551616) (ha : a < 18446744073709551616) (hk : 300 < k) : croftlaw1_multiples_uint32.f k (x : Int) (a : Int) 32 = some true := by
  obtain ⟨k, rfl⟩ : ∃ m, k = m + 1 := ⟨k - 1, by omega⟩
  have q1 := cut_f x 32 hx (by omega)
  have q2 := cut_f a 32 ha (by omega)
  have c1 : ((x : Int) % 4294967296) = ((x % 2 ^ 32 : Nat) : Int) := by first | omega | (rw [IntKind.wrap_u16]; omega) | (rw [wrap_u64]; omega)
  have c2 : ((a : Int) % 4294967296) = ((a % 2 ^ 32 : Nat) : Int) := by first | omega | (rw [IntKind.wrap_u16]; omega) | (rw [wrap_u64]; omega)
  have f1 := fit_uint32 (x % 2 ^ 32) (a % 2 ^ 32) (by omega) (by omega)
  have wu : IntKind.u64.wrap (pUp (2 ^ 32) (x % 2 ^ 32) (a % 2 ^ 32)).1 = (pUp (2 ^ 32) (x % 2 ^ 32) (a % 2 ^ 32)).1 := by rw [wrap_u64]; omega
  have wd : IntKind.u64.wrap (pDn (x % 2 ^ 32) (a % 2 ^ 32)).1 = (pDn (x % 2 ^ 32) (a % 2 ^ 32)).1 := by rw [wrap_u64]; omega
  have u1 := up_uint32 k (x % 2 ^ 32) (a % 2 ^ 32) (by omega) (by omega)
  have u2 := rUp_f (k + 1) (x % 2 ^ 32) (a % 2 ^ 32) 32 (by omega) (by omega) (by omega) (by omega)
  have d1 := dn_uint32 (x % 2 ^ 32) (a % 2 ^ 32) (by omega) (by omega)
  have d2 := rDown_f k (x % 2 ^ 32) (a % 2 ^ 32) 32 (by omega) (by omega) (by omega) (by omega)
  skip
  unfold croftlaw1_multiples_uint32.f
  rw [show (32 : Int) = ((32 : Nat) : Int) from rfl, q1, q2]
  simp only [Option.bind_some]
  rw [c1, c2]
  rw [u1, u2]
  simp only [Option.bind_some, wu]
  simp only [if_true, bne_self_eq_false, croftlaw1_multiples_uint32.j0, Bool.false_eq_true, if_false]
  rw [c1, c2]
  rw [d1, d2]
  simp only [Option.bind_some, wd]
  simp only [if_true, beq_self_eq_true]

theorem isP_uint64 (a : Nat) (ha : a < 18446744073709551616) : bits_IsPower_uint64.f (a : Int) = some (decide (IsP a)) := by
  unfold bits_IsPower_uint64.f
  by_cases h : a = 0
  · subst h; decide
  · rw [if_neg (by omega)]
    have e : IntKind.u64.wrap ((a : Int) - 1) = ((a - 1 : Nat) : Int) := by first | omega | (rw [IntKind.wrap_u16]; omega) | (rw [wrap_u64]; omega)
    rw [e, Go.u64_and_nat a (a - 1) ha (by omega)]
    congr 1
    rw [Bool.eq_iff_iff, beq_iff_eq, decide_eq_true_eq, ← isP_iff]
    omega
theorem dn_uint64 (x a : Nat) (hx : x < 18446744073709551616) (ha : a < 18446744073709551616) : bits_Down_uint64.f (x : Int) (a : Int) = some (pDn x a) := by
  unfold bits_Down_uint64.f pDn
  rw [isP_uint64 a ha]
  simp only [Option.bind_some, decide_eq_true_eq]
  by_cases h : IsP a
  · rw [if_pos h, if_pos h]
    have e : IntKind.u64.wrap ((a : Int) - 1) = ((a - 1 : Nat) : Int) := by have := Nat.pos_of_isPowerOfTwo h; first | omega | (rw [IntKind.wrap_u16]; omega) | (rw [wrap_u64]; omega)
    rw [e, Go.u64_andNot_nat x (a - 1) hx (by omega)]
    obtain ⟨n, hn, rfl⟩ := isP_exp (w := 64) h (by omega)
    have := andNot_pow 64 n x (by omega) (by omega)
    rw [← this]
  · rw [if_neg h, if_neg h]
theorem up_uint64 (k x a : Nat) (hx : x < 18446744073709551616) (ha : a < 18446744073709551616) : bits_Up_uint64.f (k + 1) (x : Int) (a : Int) = some (pUp (2 ^ 64) x a) := by
  unfold bits_Up_uint64.f pUp
  rw [dn_uint64 x a hx ha]
  simp only [Option.bind_some, pDn]
  by_cases h : IsP a
  · rw [if_pos h, if_pos h]
    simp only [if_true]
    by_cases e : x / a * a = x
    · rw [if_pos e]
      have eb : ((((x / a * a : Nat) : Int)) == (x : Int)) = true := by rw [beq_iff_eq]; omega
      rw [eb]
      simp only [bits_Up_uint64.j0, if_true]
      rw [e]
    · have eb : ((((x / a * a : Nat) : Int)) == (x : Int)) = false := by rw [beq_eq_false_iff_ne]; omega
      rw [if_neg e, eb]
      simp only [bits_Up_uint64.j0, Bool.false_eq_true, if_false]
      have l1 : x / a * a + a ≤ 2 ^ 64 := by
        obtain ⟨n, hn, rfl⟩ := isP_exp (w := 64) h (by omega)
        exact up_at_most 64 n x hn (by omega)
      have hpos := Nat.pos_of_isPowerOfTwo h
      by_cases h3 : 2 ^ 64 ≤ x / a * a + a
      · rw [if_pos (by rw [wrap_u64]; omega), if_pos h3]
      · rw [if_neg (by rw [wrap_u64]; omega), if_neg h3]
        congr 2
        rw [wrap_u64]; omega
  · rw [if_neg h, if_neg h]
    simp only [Bool.false_eq_true, if_false, bits_Up_uint64.j0, if_true]

theorem fit_uint64 (x a : Nat) (hx : x < 18446744073709551616) (ha : a < 18446744073709551616) : 0 ≤ (pUp (2 ^ 64) x a).1 ∧ (pUp (2 ^ 64) x a).1 < 18446744073709551616 ∧ 0 ≤ (pDn x a).1 ∧ (pDn x a).1 < 18446744073709551616 := by
  have l2 : x / a * a ≤ x := Nat.div_mul_le_self _ _
  unfold pUp pDn
  by_cases h : IsP a
  · simp only [if_pos h]
    by_cases e : x / a * a = x
    · simp only [if_pos e]; omega
    · simp only [if_neg e]
      by_cases h3 : 2 ^ 64 ≤ x / a * a + a
      · simp only [if_pos h3]; omega
      · simp only [if_neg h3]; omega
  · simp only [if_neg h]; omega
theorem mul_uint64 (k x a : Nat) (hx : x < 18446744073709551616) (ha : a < 18446744073709551616) (hk : 300 < k) : croftlaw1_multiples_uint64.f k (x : Int) (a : Int) 64 = some true := by
  obtain ⟨k, rfl⟩ : ∃ m, k = m + 1 := ⟨k - 1, by omega⟩
  have q1 := cut_f x 64 hx (by omega)
  have q2 := cut_f a 64 ha (by omega)
  have cx : x % 2 ^ 64 = x := Nat.mod_eq_of_lt hx
  have ca : a % 2 ^ 64 = a := Nat.mod_eq_of_lt ha
  have f1 := fit_uint64 x a hx ha
  have wu : IntKind.u64.wrap (pUp (2 ^ 64) x a).1 = (pUp (2 ^ 64) x a).1 := by rw [wrap_u64]; omega
  have wd : IntKind.u64.wrap (pDn x a).1 = (pDn x a).1 := by rw [wrap_u64]; omega
  have u1 := up_uint64 k x a hx ha
  have u2 := rUp_f (k + 1) x a 64 (by omega) hx ha (by omega)
  have d1 := dn_uint64 x a hx ha
  have d2 := rDown_f k x a 64 (by omega) hx ha (by omega)
  rw [cx] at q1; rw [ca] at q2
  unfold croftlaw1_multiples_uint64.f
  rw [show (64 : Int) = ((64 : Nat) : Int) from rfl, q1, q2]
  simp only [Option.bind_some]
  skip
  rw [u1, u2]
  simp only [Option.bind_some]
  simp only [if_true, bne_self_eq_false, croftlaw1_multiples_uint64.j0, Bool.false_eq_true, if_false]
  skip
  rw [d1, d2]
  simp only [Option.bind_some]
  simp only [if_true, beq_self_eq_true]

theorem isP_small (a : Nat) (ha : a < 256) : croftlaw1_small_73.f (a : Int) = some (decide (IsP a)) := by
  unfold croftlaw1_small_73.f
  by_cases h : a = 0
  · subst h; decide
  · rw [if_neg (by omega)]
    have e : ((a : Int) - 1) % 256 = ((a - 1 : Nat) : Int) := by first | omega | (rw [IntKind.wrap_u16]; omega) | (rw [wrap_u64]; omega)
    rw [e, Go.u8_and_nat a (a - 1) ha (by omega)]
    congr 1
    rw [Bool.eq_iff_iff, beq_iff_eq, decide_eq_true_eq, ← isP_iff]
    omega
theorem dn_small (x a : Nat) (hx : x < 256) (ha : a < 256) : croftlaw1_small_59.f (x : Int) (a : Int) = some (pDn x a) := by
  unfold croftlaw1_small_59.f pDn
  rw [isP_small a ha]
  simp only [Option.bind_some, decide_eq_true_eq]
  by_cases h : IsP a
  · rw [if_pos h, if_pos h]
    have e : ((a : Int) - 1) % 256 = ((a - 1 : Nat) : Int) := by have := Nat.pos_of_isPowerOfTwo h; first | omega | (rw [IntKind.wrap_u16]; omega) | (rw [wrap_u64]; omega)
    rw [e, Go.u8_andNot_nat x (a - 1) hx (by omega)]
    obtain ⟨n, hn, rfl⟩ := isP_exp (w := 8) h (by omega)
    have := andNot_pow 8 n x (by omega) (by omega)
    rw [← this]
  · rw [if_neg h, if_neg h]
theorem up_small (k x a : Nat) (hx : x < 256) (ha : a < 256) : croftlaw1_small_58.f (k + 1) (x : Int) (a : Int) = some (pUp (2 ^ 8) x a) := by
  unfold croftlaw1_small_58.f pUp
  rw [dn_small x a hx ha]
  simp only [Option.bind_some, pDn]
  by_cases h : IsP a
  · rw [if_pos h, if_pos h]
    simp only [if_true]
    by_cases e : x / a * a = x
    · rw [if_pos e]
      have eb : ((((x / a * a : Nat) : Int)) == (x : Int)) = true := by rw [beq_iff_eq]; omega
      rw [eb]
      simp only [croftlaw1_small_58.j0, if_true]
      rw [e]
    · have eb : ((((x / a * a : Nat) : Int)) == (x : Int)) = false := by rw [beq_eq_false_iff_ne]; omega
      rw [if_neg e, eb]
      simp only [croftlaw1_small_58.j0, Bool.false_eq_true, if_false]
      have l1 : x / a * a + a ≤ 2 ^ 8 := by
        obtain ⟨n, hn, rfl⟩ := isP_exp (w := 8) h (by omega)
        exact up_at_most 8 n x hn (by omega)
      have hpos := Nat.pos_of_isPowerOfTwo h
      by_cases h3 : 2 ^ 8 ≤ x / a * a + a
      · rw [if_pos (by omega), if_pos h3]
      · rw [if_neg (by omega), if_neg h3]
        congr 2
        omega
  · rw [if_neg h, if_neg h]
    simp only [Bool.false_eq_true, if_false, croftlaw1_small_58.j0, if_true]

theorem fit_small (x a : Nat) (hx : x < 256) (ha : a < 256) : 0 ≤ (pUp (2 ^ 8) x a).1 ∧ (pUp (2 ^ 8) x a).1 < 18446744073709551616 ∧ 0 ≤ (pDn x a).1 ∧ (pDn x a).1 < 18446744073709551616 := by
  have l2 : x / a * a ≤ x := Nat.div_mul_le_self _ _
  unfold pUp pDn
  by_cases h : IsP a
  · simp only [if_pos h]
    by_cases e : x / a * a = x
    · simp only [if_pos e]; omega
    · simp only [if_neg e]
      by_cases h3 : 2 ^ 8 ≤ x / a * a + a
      · simp only [if_pos h3]; omega
      · simp only [if_neg h3]; omega
  · simp only [if_neg h]; omega
theorem mul_small (k x a : Nat) (hx : x < 18446744073709551616) (ha : a < 18446744073709551616) (hk : 300 < k) : croftlaw1_small_14.f k (x : Int) (a : Int) 8 = some true := by
  obtain ⟨k, rfl⟩ : ∃ m, k = m + 1 := ⟨k - 1, by omega⟩
  have q1 := cut_f x 8 hx (by omega)
  have q2 := cut_f a 8 ha (by omega)
  have c1 : ((x : Int) % 256) = ((x % 2 ^ 8 : Nat) : Int) := by first | omega | (rw [IntKind.wrap_u16]; omega) | (rw [wrap_u64]; omega)
  have c2 : ((a : Int) % 256) = ((a % 2 ^ 8 : Nat) : Int) := by first | omega | (rw [IntKind.wrap_u16]; omega) | (rw [wrap_u64]; omega)
  have f1 := fit_small (x % 2 ^ 8) (a % 2 ^ 8) (by omega) (by omega)
  have wu : IntKind.u64.wrap (pUp (2 ^ 8) (x % 2 ^ 8) (a % 2 ^ 8)).1 = (pUp (2 ^ 8) (x % 2 ^ 8) (a % 2 ^ 8)).1 := by rw [wrap_u64]; omega
  have wd : IntKind.u64.wrap (pDn (x % 2 ^ 8) (a % 2 ^ 8)).1 = (pDn (x % 2 ^ 8) (a % 2 ^ 8)).1 := by rw [wrap_u64]; omega
  have u1 := up_small k (x % 2 ^ 8) (a % 2 ^ 8) (by omega) (by omega)
  have u2 := rUp_f (k + 1) (x % 2 ^ 8) (a % 2 ^ 8) 8 (by omega) (by omega) (by omega) (by omega)
  have d1 := dn_small (x % 2 ^ 8) (a % 2 ^ 8) (by omega) (by omega)
  have d2 := rDown_f k (x % 2 ^ 8) (a % 2 ^ 8) 8 (by omega) (by omega) (by omega) (by omega)
  skip
  unfold croftlaw1_small_14.f
  rw [show (8 : Int) = ((8 : Nat) : Int) from rfl, q1, q2]
  simp only [Option.bind_some]
  rw [c1, c2]
  rw [u1, u2]
  simp only [Option.bind_some, wu]
  simp only [if_true, bne_self_eq_false, croftlaw1_small_14.j0, Bool.false_eq_true, if_false]
  rw [c1, c2]
  rw [d1, d2]
  simp only [Option.bind_some, wd]
  simp only [if_true, beq_self_eq_true]

theorem isP_wide (a : Nat) (ha : a < 18446744073709551616) : croftlaw1_wide_77.f (a : Int) = some (decide (IsP a)) := by
  unfold croftlaw1_wide_77.f
  by_cases h : a = 0
  · subst h; decide
  · rw [if_neg (by omega)]
    have e : IntKind.u64.wrap ((a : Int) - 1) = ((a - 1 : Nat) : Int) := by first | omega | (rw [IntKind.wrap_u16]; omega) | (rw [wrap_u64]; omega)
    rw [e, Go.u64_and_nat a (a - 1) ha (by omega)]
    congr 1
    rw [Bool.eq_iff_iff, beq_iff_eq, decide_eq_true_eq, ← isP_iff]
    omega
theorem dn_wide (x a : Nat) (hx : x < 18446744073709551616) (ha : a < 18446744073709551616) : croftlaw1_wide_61.f (x : Int) (a : Int) = some (pDn x a) := by
  unfold croftlaw1_wide_61.f pDn
  rw [isP_wide a ha]
  simp only [Option.bind_some, decide_eq_true_eq]
  by_cases h : IsP a
  · rw [if_pos h, if_pos h]
    have e : IntKind.u64.wrap ((a : Int) - 1) = ((a - 1 : Nat) : Int) := by have := Nat.pos_of_isPowerOfTwo h; first | omega | (rw [IntKind.wrap_u16]; omega) | (rw [wrap_u64]; omega)
    rw [e, Go.u64_andNot_nat x (a - 1) hx (by omega)]
    obtain ⟨n, hn, rfl⟩ := isP_exp (w := 64) h (by omega)
    have := andNot_pow 64 n x (by omega) (by omega)
    rw [← this]
  · rw [if_neg h, if_neg h]
theorem up_wide (k x a : Nat) (hx : x < 18446744073709551616) (ha : a < 18446744073709551616) : croftlaw1_wide_60.f (k + 1) (x : Int) (a : Int) = some (pUp (2 ^ 64) x a) := by
  unfold croftlaw1_wide_60.f pUp
  rw [dn_wide x a hx ha]
  simp only [Option.bind_some, pDn]
  by_cases h : IsP a
  · rw [if_pos h, if_pos h]
    simp only [if_true]
    by_cases e : x / a * a = x
    · rw [if_pos e]
      have eb : ((((x / a * a : Nat) : Int)) == (x : Int)) = true := by rw [beq_iff_eq]; omega
      rw [eb]
      simp only [croftlaw1_wide_60.j0, if_true]
      rw [e]
    · have eb : ((((x / a * a : Nat) : Int)) == (x : Int)) = false := by rw [beq_eq_false_iff_ne]; omega
      rw [if_neg e, eb]
      simp only [croftlaw1_wide_60.j0, Bool.false_eq_true, if_false]
      have l1 : x / a * a + a ≤ 2 ^ 64 := by
        obtain ⟨n, hn, rfl⟩ := isP_exp (w := 64) h (by omega)
        exact up_at_most 64 n x hn (by omega)
      have hpos := Nat.pos_of_isPowerOfTwo h
      by_cases h3 : 2 ^ 64 ≤ x / a * a + a
      · rw [if_pos (by rw [wrap_u64]; omega), if_pos h3]
      · rw [if_neg (by rw [wrap_u64]; omega), if_neg h3]
        congr 2
        rw [wrap_u64]; omega
  · rw [if_neg h, if_neg h]
    simp only [Bool.false_eq_true, if_false, croftlaw1_wide_60.j0, if_true]

theorem fit_wide (x a : Nat) (hx : x < 18446744073709551616) (ha : a < 18446744073709551616) : 0 ≤ (pUp (2 ^ 64) x a).1 ∧ (pUp (2 ^ 64) x a).1 < 18446744073709551616 ∧ 0 ≤ (pDn x a).1 ∧ (pDn x a).1 < 18446744073709551616 := by
  have l2 : x / a * a ≤ x := Nat.div_mul_le_self _ _
  unfold pUp pDn
  by_cases h : IsP a
  · simp only [if_pos h]
    by_cases e : x / a * a = x
    · simp only [if_pos e]; omega
    · simp only [if_neg e]
      by_cases h3 : 2 ^ 64 ≤ x / a * a + a
      · simp only [if_pos h3]; omega
      · simp only [if_neg h3]; omega
  · simp only [if_neg h]; omega
theorem mul_wide (k x a : Nat) (hx : x < 18446744073709551616) (ha : a < 18446744073709551616) (hk : 300 < k) : croftlaw1_wide_15.f k (x : Int) (a : Int) 64 = some true := by
  obtain ⟨k, rfl⟩ : ∃ m, k = m + 1 := ⟨k - 1, by omega⟩
  have q1 := cut_f x 64 hx (by omega)
  have q2 := cut_f a 64 ha (by omega)
  have cx : x % 2 ^ 64 = x := Nat.mod_eq_of_lt hx
  have ca : a % 2 ^ 64 = a := Nat.mod_eq_of_lt ha
  have f1 := fit_wide x a hx ha
  have wu : IntKind.u64.wrap (pUp (2 ^ 64) x a).1 = (pUp (2 ^ 64) x a).1 := by rw [wrap_u64]; omega
  have wd : IntKind.u64.wrap (pDn x a).1 = (pDn x a).1 := by rw [wrap_u64]; omega
  have u1 := up_wide k x a hx ha
  have u2 := rUp_f (k + 1) x a 64 (by omega) hx ha (by omega)
  have d1 := dn_wide x a hx ha
  have d2 := rDown_f k x a 64 (by omega) hx ha (by omega)
  rw [cx] at q1; rw [ca] at q2
  unfold croftlaw1_wide_15.f
  rw [show (64 : Int) = ((64 : Nat) : Int) from rfl, q1, q2]
  simp only [Option.bind_some]
  skip
  rw [u1, u2]
  simp only [Option.bind_some]
  simp only [if_true, bne_self_eq_false, croftlaw1_wide_15.j0, Bool.false_eq_true, if_false]
  skip
  rw [d1, d2]
  simp only [Option.bind_some]
  simp only [if_true, beq_self_eq_true]


/-- Ceil: the least power of 2 that is not below x, below M. -/
def pCeil (M x : Nat) : Int × Bool := if x ≤ 1 then (1, true) else if 2 ^ Lib.bitLen (x - 1) < M then (((2 ^ Lib.bitLen (x - 1) : Nat) : Int), true) else (0, false)
def pLog (x : Nat) : Int := (Lib.bitLen x : Int) - 1
def pPop (x : Nat) : Int := (Lib.popAux 64 x : Int)

theorem len64 (k x : Nat) (hx : x < 18446744073709551616) : bits_Len64.f k (x : Int) = some (Lib.bitLen x : Int) := by
  unfold bits_Len64.f
  rw [if_pos (by omega)]; simp
theorem lenb (x : Nat) (hx : x < 18446744073709551616) : Lib.bitLen x ≤ 64 := len_le x 64 (by omega) (by omega)
theorem pop64 (x : Nat) (hx : x < 18446744073709551616) : bits_OnesCount64.f (x : Int) = some (pPop x) := by
  have hx2 : x < 2 ^ 64 := hx
  unfold bits_OnesCount64.f
  rw [s1 x hx2, s2 x hx2, s3 x hx2, s4 x hx2]; rfl

theorem rLog_tells (x : Nat) (hx : x < 18446744073709551616) (d : Nat) : ∀ (k : Nat), d ≤ 64 → x < 2 ^ d → d + 70 < k → croftref1_Log.l0 k (x : Int) ((d : Int) - 1) = some (pLog x) := by
  induction d with
  | zero =>
    intro k hd hlt hk
    obtain ⟨k, rfl⟩ : ∃ m, k = m + 1 := ⟨k - 1, by omega⟩
    obtain rfl : x = 0 := by omega
    simp only [croftref1_Log.l0]; rw [if_neg (by omega)]; rfl
  | succ d ih =>
    intro k hd hlt hk
    obtain ⟨k, rfl⟩ : ∃ m, k = m + 1 := ⟨k - 1, by omega⟩
    simp only [croftref1_Log.l0]
    rw [show ((d + 1 : Nat) : Int) - 1 = (d : Int) by omega, if_pos (by omega), power_f k d (by omega) (by omega)]
    simp only [Option.bind_some]
    by_cases h : 2 ^ d ≤ x
    · rw [if_pos (by omega)]
      unfold pLog
      rw [len_unique x d hx h hlt]; congr 1; omega
    · rw [if_neg (by omega), show wrap64 ((d : Int) - 1) = (d : Int) - 1 by unfold wrap64; omega]
      exact ih k (by omega) (by omega) (by omega)
theorem rLog_f (k x w : Nat) (hw : w ≤ 64) (h1 : 1 ≤ w) (hx : x < 2 ^ w) (hk : 200 < k) : croftref1_Log.f k (x : Int) (w : Int) = some (pLog x) := by
  have hw2 : 2 ^ w ≤ 2 ^ 64 := Nat.pow_le_pow_right (by omega) hw
  unfold croftref1_Log.f
  rw [show wrap64 ((w : Int) - 1) = (w : Int) - 1 by unfold wrap64; omega]
  exact rLog_tells x (by omega) w k hw hx (by omega)

theorem rCount_tells (d : Nat) : ∀ (k x c : Nat), x < 2 ^ d → c + d ≤ 64 → d < k → croftref1_Count.l0 k (x : Int) (c : Int) = some (((Lib.popAux d x + c : Nat) : Int)) := by
  induction d with
  | zero =>
    intro k x c hx _ hk
    obtain ⟨k, rfl⟩ : ∃ m, k = m + 1 := ⟨k - 1, by omega⟩
    obtain rfl : x = 0 := by omega
    simp only [croftref1_Count.l0]; rw [if_neg (by omega)]; simp [Lib.popAux]
  | succ d ih =>
    intro k x c hx hc hk
    obtain ⟨k, rfl⟩ : ∃ m, k = m + 1 := ⟨k - 1, by omega⟩
    have hw2 : 2 ^ (d + 1) ≤ 2 ^ 64 := Nat.pow_le_pow_right (by omega) (by omega)
    simp only [croftref1_Count.l0]
    by_cases h0 : x = 0
    · subst h0
      rw [if_neg (by omega), pop_zero]; simp
    · rw [if_pos (by omega)]
      have e1 : IntKind.u64.wrap (Int.tdiv (x : Int) 2) = ((x / 2 : Nat) : Int) := by
        rw [show Int.tdiv (x : Int) 2 = ((x / 2 : Nat) : Int) by simp [Int.ofNat_tdiv]]; exact wrapu_nat (by omega)
      have e2 : Int.tmod (x : Int) 2 = ((x % 2 : Nat) : Int) := (Int.tmod_eq_emod_of_nonneg (by omega)).trans (by omega)
      have hx2 : x / 2 < 2 ^ d := by rw [Nat.pow_succ] at hx; omega
      rw [e1, e2]
      by_cases h1 : x % 2 = 1
      · rw [if_pos (by omega), wrap64_id (by omega), ih k (x / 2) (c + 1) hx2 (by omega) (by omega)]
        congr 2; simp only [Lib.popAux]; omega
      · rw [if_neg (by omega), ih k (x / 2) c hx2 (by omega) (by omega)]
        congr 2; simp only [Lib.popAux]; omega
theorem rCount_f (k x : Nat) (hx : x < 18446744073709551616) (hk : 200 < k) : croftref1_Count.f k (x : Int) = some (pPop x) := by
  unfold croftref1_Count.f
  have := rCount_tells 64 k x 0 (by omega) (by omega) (by omega)
  rw [show (0 : Int) = ((0 : Nat) : Int) from rfl, this]; unfold pPop; rw [Nat.add_zero]

theorem ceil_len (x : Nat) (hx : x < 18446744073709551616) (h : 1 < x) (n : Nat) : x ≤ 2 ^ n ↔ Lib.bitLen (x - 1) ≤ n := by
  obtain ⟨a, b, c⟩ := len_bounds (x - 1) (by omega) (by omega)
  constructor
  · intro hn
    have : 2 ^ (Lib.bitLen (x - 1) - 1) < 2 ^ n := by omega
    have := (Nat.pow_lt_pow_iff_right (by omega : 1 < 2)).1 this
    omega
  · intro hn
    have : 2 ^ Lib.bitLen (x - 1) ≤ 2 ^ n := Nat.pow_le_pow_right (by omega) hn
    omega
theorem rCeil_tells (x w : Nat) (hw : w ≤ 64) (h1 : 1 ≤ w) (hx : x < 18446744073709551616) (d : Nat) : ∀ (k i : Nat), i + d = w → (∀ j, j < i → 2 ^ j < x) → d + 70 < k →
    croftref1_Ceil.l0 k (x : Int) (w : Int) (i : Int) = some (pCeil (2 ^ w) x) := by
  induction d with
  | zero =>
    intro k i hi hno hk
    obtain ⟨k, rfl⟩ : ∃ m, k = m + 1 := ⟨k - 1, by omega⟩
    simp only [croftref1_Ceil.l0]; rw [if_neg (by omega)]
    have h0 := hno 0 (by omega)
    unfold pCeil
    rw [if_neg (by omega)]
    have hl : w ≤ Lib.bitLen (x - 1) := by
      apply Nat.le_of_not_lt
      intro h
      have := (ceil_len x hx (by omega) (w - 1)).2 (by omega)
      have := hno (w - 1) (by omega)
      omega
    have : 2 ^ w ≤ 2 ^ Lib.bitLen (x - 1) := Nat.pow_le_pow_right (by omega) hl
    rw [if_neg (by omega)]
  | succ d ih =>
    intro k i hi hno hk
    obtain ⟨k, rfl⟩ : ∃ m, k = m + 1 := ⟨k - 1, by omega⟩
    simp only [croftref1_Ceil.l0]; rw [if_pos (by omega), power_f k i (by omega) (by omega)]
    simp only [Option.bind_some]
    by_cases h : x ≤ 2 ^ i
    · rw [if_pos (by omega)]
      unfold pCeil
      by_cases h1 : x ≤ 1
      · rw [if_pos h1]
        have : i = 0 := by
          apply Nat.eq_zero_of_not_pos
          intro hp
          have := hno 0 hp
          omega
        subst this; rfl
      · rw [if_neg h1]
        have hl : Lib.bitLen (x - 1) = i := by
          have a := (ceil_len x hx (by omega) i).1 h
          apply Nat.le_antisymm a
          apply Nat.le_of_not_lt
          intro hlt
          have := (ceil_len x hx (by omega) (i - 1)).2 (by omega)
          have := hno (i - 1) (by omega)
          omega
        rw [hl, if_pos (Nat.pow_lt_pow_right (by omega) (by omega))]
    · rw [if_neg (by omega), wrap64_id (by omega)]
      refine ih k (i + 1) (by omega) (fun j hj => ?_) (by omega)
      by_cases e : j = i
      · subst e; omega
      · exact hno j (by omega)
theorem rCeil_f (k x w : Nat) (hw : w ≤ 64) (h1 : 1 ≤ w) (hx : x < 18446744073709551616) (hk : 200 < k) : croftref1_Ceil.f k (x : Int) (w : Int) = some (pCeil (2 ^ w) x) := by
  unfold croftref1_Ceil.f
  exact rCeil_tells x w hw h1 hx w k 0 (by omega) (fun j hj => by omega) (by omega)
theorem shl_one (n : Nat) (hn : n ≤ 64) : shl .u64 1 (n : Int) = if n < 64 then ((2 ^ n : Nat) : Int) else 0 := by
  unfold shl
  rw [Int.toNat_natCast, Nat.min_eq_left (show n ≤ IntKind.u64.bits by simp [IntKind.bits]; omega), Int.one_mul, wrap_u64]
  have e : ((2 : Int) ^ n) = ((2 ^ n : Nat) : Int) := by simp
  rw [e]
  by_cases h : n < 64
  · have h1 : 2 ^ n < 2 ^ 64 := Nat.pow_lt_pow_right (by omega) h
    rw [if_pos h]
    obtain ⟨P, hP⟩ : ∃ P, P = 2 ^ n := ⟨_, rfl⟩
    rw [← hP] at h1 ⊢; omega
  · obtain rfl : n = 64 := by omega
    rw [if_neg h]; decide


theorem log_uint8 (k x : Nat) (hx : x < 256) : bits_Log_uint8.f k (x : Int) = some (pLog x) := by
  unfold bits_Log_uint8.f pLog
  rw [u64_id (by omega)]; rw [len64 k x (by omega)]
  simp only [Option.bind_some]
  have := lenb x (by omega)
  congr 1; unfold wrap64; omega
theorem count_uint8 (x : Nat) (hx : x < 256) : bits_Count_uint8.f (x : Int) = some (pPop x) := by
  unfold bits_Count_uint8.f
  rw [u64_id (by omega)]; rw [pop64 x (by omega)]; rfl
theorem shl_uint8 (n : Nat) (hn : n ≤ 8) : shl .u8 1 (n : Int) = if n < 8 then ((2 ^ n : Nat) : Int) else 0 := by
  unfold shl
  rw [Int.toNat_natCast, Nat.min_eq_left (show n ≤ IntKind.u8.bits by simp [IntKind.bits]; omega), Int.one_mul, IntKind.wrap_u8]
  have e : ((2 : Int) ^ n) = ((2 ^ n : Nat) : Int) := by simp
  rw [e]
  by_cases h : n < 8
  · have h1 : 2 ^ n < 2 ^ 8 := Nat.pow_lt_pow_right (by omega) h
    rw [if_pos h]
    obtain ⟨P, hP⟩ : ∃ P, P = 2 ^ n := ⟨_, rfl⟩
    rw [← hP] at h1 ⊢; omega
  · obtain rfl : n = 8 := by omega
    rw [if_neg h]; decide
theorem ceil_uint8 (k x : Nat) (hx : x < 256) : bits_Ceil_uint8.f k (x : Int) = some (pCeil (2 ^ 8) x) := by
  unfold bits_Ceil_uint8.f pCeil
  by_cases h : x ≤ 1
  · rw [if_pos (by omega), if_pos h]
  · rw [if_neg (by omega), if_neg h]
    have e : ((x : Int) - 1) % 256 = ((x - 1 : Nat) : Int) := by first | omega | (rw [IntKind.wrap_u16]; omega) | (rw [wrap_u64]; omega)
    rw [e, log_uint8 k (x - 1) (by omega)]
    simp only [Option.bind_some, pLog]
    have hl := len_le (x - 1) 8 (by omega) (by omega)
    have e2 : wrap64 ((Lib.bitLen (x - 1) : Int) - 1 + 1) = (Lib.bitLen (x - 1) : Int) := by unfold wrap64; omega
    rw [e2, if_pos (by omega), shl_uint8 _ hl]
    by_cases h3 : Lib.bitLen (x - 1) < 8
    · have hp : 0 < 2 ^ Lib.bitLen (x - 1) := Nat.pow_pos (by omega)
      rw [if_pos h3, if_pos (Nat.pow_lt_pow_right (by omega) h3)]
      congr 2; rw [bne_iff_ne]; omega
    · have h4 : 2 ^ 8 ≤ 2 ^ Lib.bitLen (x - 1) := Nat.pow_le_pow_right (by omega) (by omega)
      rw [if_neg h3, if_neg (by omega)]; rfl
theorem fitc_uint8 (x : Nat) : 0 ≤ (pCeil (2 ^ 8) x).1 ∧ (pCeil (2 ^ 8) x).1 < 256 := by
  unfold pCeil
  by_cases h : x ≤ 1
  · rw [if_pos h]; omega
  · rw [if_neg h]
    by_cases h3 : 2 ^ Lib.bitLen (x - 1) < 2 ^ 8
    · rw [if_pos h3]
      obtain ⟨P, hP⟩ : ∃ P, P = 2 ^ Lib.bitLen (x - 1) := ⟨_, rfl⟩
      rw [← hP] at h3 ⊢; simp only []; omega
    · rw [if_neg h3]; omega
theorem pow_uint8 (k x : Nat) (hx : x < 18446744073709551616) (hk : 300 < k) : croftlaw1_powers_uint8.f k (x : Int) 8 = some true := by
  obtain ⟨k, rfl⟩ : ∃ m, k = m + 1 := ⟨k - 1, by omega⟩
  have q1 := cut_f x 8 hx (by omega)
  have c1 : ((x : Int) % 256) = ((x % 2 ^ 8 : Nat) : Int) := by first | omega | (rw [IntKind.wrap_u16]; omega) | (rw [wrap_u64]; omega)
  skip
  skip
  have f1 := fitc_uint8 (x % 2 ^ 8)
  have wu : IntKind.u64.wrap (pCeil (2 ^ 8) (x % 2 ^ 8)).1 = (pCeil (2 ^ 8) (x % 2 ^ 8)).1 := by rw [wrap_u64]; omega
  have r1 := rIsPower_f (k + 1) (x % 2 ^ 8) 8 (by omega) (by omega) (by omega)
  have r2 := rLog_f (k + 1) (x % 2 ^ 8) 8 (by omega) (by omega) (by omega) (by omega)
  have r3 := rCount_f (k + 1) (x % 2 ^ 8) (by omega) (by omega)
  have r4 := rCeil_f k (x % 2 ^ 8) 8 (by omega) (by omega) (by omega) (by omega)
  unfold croftlaw1_powers_uint8.f
  rw [show (8 : Int) = ((8 : Nat) : Int) from rfl, q1]
  simp only [Option.bind_some]
  rw [c1]
  rw [isP_uint8 (x % 2 ^ 8) (by omega), r1]
  simp only [Option.bind_some, bne_self_eq_false, Bool.false_eq_true, if_false]
  rw [log_uint8 (k + 1) (x % 2 ^ 8) (by omega), r2]
  simp only [Option.bind_some, if_true]
  rw [count_uint8 (x % 2 ^ 8) (by omega), r3]
  simp only [Option.bind_some, bne_self_eq_false, croftlaw1_powers_uint8.j0, Bool.false_eq_true, if_false]
  rw [ceil_uint8 k (x % 2 ^ 8) (by omega), r4]
  simp only [Option.bind_some, wu]
  simp only [if_true, beq_self_eq_true]

theorem log_uint16 (k x : Nat) (hx : x < 65536) : bits_Log_uint16.f k (x : Int) = some (pLog x) := by
  unfold bits_Log_uint16.f pLog
  rw [u64_id (by omega)]; rw [len64 k x (by omega)]
  simp only [Option.bind_some]
  have := lenb x (by omega)
  congr 1; unfold wrap64; omega
theorem count_uint16 (x : Nat) (hx : x < 65536) : bits_Count_uint16.f (x : Int) = some (pPop x) := by
  unfold bits_Count_uint16.f
  rw [u64_id (by omega)]; rw [pop64 x (by omega)]; rfl
theorem shl_uint16 (n : Nat) (hn : n ≤ 16) : shl .u16 1 (n : Int) = if n < 16 then ((2 ^ n : Nat) : Int) else 0 := by
  unfold shl
  rw [Int.toNat_natCast, Nat.min_eq_left (show n ≤ IntKind.u16.bits by simp [IntKind.bits]; omega), Int.one_mul, IntKind.wrap_u16]
  have e : ((2 : Int) ^ n) = ((2 ^ n : Nat) : Int) := by simp
  rw [e]
  by_cases h : n < 16
  · have h1 : 2 ^ n < 2 ^ 16 := Nat.pow_lt_pow_right (by omega) h
    rw [if_pos h]
    obtain ⟨P, hP⟩ : ∃ P, P = 2 ^ n := ⟨_, rfl⟩
    rw [← hP] at h1 ⊢; omega
  · obtain rfl : n = 16 := by omega
    rw [if_neg h]; decide
theorem ceil_uint16 (k x : Nat) (hx : x < 65536) : bits_Ceil_uint16.f k (x : Int) = some (pCeil (2 ^ 16) x) := by
  unfold bits_Ceil_uint16.f pCeil
  by_cases h : x ≤ 1
  · rw [if_pos (by omega), if_pos h]
  · rw [if_neg (by omega), if_neg h]
    have e : IntKind.u16.wrap ((x : Int) - 1) = ((x - 1 : Nat) : Int) := by first | omega | (rw [IntKind.wrap_u16]; omega) | (rw [wrap_u64]; omega)
    rw [e, log_uint16 k (x - 1) (by omega)]
    simp only [Option.bind_some, pLog]
    have hl := len_le (x - 1) 16 (by omega) (by omega)
    have e2 : wrap64 ((Lib.bitLen (x - 1) : Int) - 1 + 1) = (Lib.bitLen (x - 1) : Int) := by unfold wrap64; omega
    rw [e2, if_pos (by omega), shl_uint16 _ hl]
    by_cases h3 : Lib.bitLen (x - 1) < 16
    · have hp : 0 < 2 ^ Lib.bitLen (x - 1) := Nat.pow_pos (by omega)
      rw [if_pos h3, if_pos (Nat.pow_lt_pow_right (by omega) h3)]
      congr 2; rw [bne_iff_ne]; omega
    · have h4 : 2 ^ 16 ≤ 2 ^ Lib.bitLen (x - 1) := Nat.pow_le_pow_right (by omega) (by omega)
      rw [if_neg h3, if_neg (by omega)]; rfl
theorem fitc_uint16 (x : Nat) : 0 ≤ (pCeil (2 ^ 16) x).1 ∧ (pCeil (2 ^ 16) x).1 < 65536 := by
  unfold pCeil
  by_cases h : x ≤ 1
  · rw [if_pos h]; omega
  · rw [if_neg h]
    by_cases h3 : 2 ^ Lib.bitLen (x - 1) < 2 ^ 16
    · rw [if_pos h3]
      obtain ⟨P, hP⟩ : ∃ P, P = 2 ^ Lib.bitLen (x - 1) := ⟨_, rfl⟩
      rw [← hP] at h3 ⊢; simp only []; omega
    · rw [if_neg h3]; omega
theorem pow_uint16 (k x : Nat) (hx : x < 18446744073709551616) (hk : 300 < k) : croftlaw1_powers_uint16.f k (x : Int) 16 = some true := by
  obtain ⟨k, rfl⟩ : ∃ m, k = m + 1 := ⟨k - 1, by omega⟩
  have q1 := cut_f x 16 hx (by omega)
  have c1 : (IntKind.u16.wrap (x : Int)) = ((x % 2 ^ 16 : Nat) : Int) := by first | omega | (rw [IntKind.wrap_u16]; omega) | (rw [wrap_u64]; omega)
  skip
  skip
  have f1 := fitc_uint16 (x % 2 ^ 16)
  have wu : IntKind.u64.wrap (pCeil (2 ^ 16) (x % 2 ^ 16)).1 = (pCeil (2 ^ 16) (x % 2 ^ 16)).1 := by rw [wrap_u64]; omega
  have r1 := rIsPower_f (k + 1) (x % 2 ^ 16) 16 (by omega) (by omega) (by omega)
  have r2 := rLog_f (k + 1) (x % 2 ^ 16) 16 (by omega) (by omega) (by omega) (by omega)
  have r3 := rCount_f (k + 1) (x % 2 ^ 16) (by omega) (by omega)
  have r4 := rCeil_f k (x % 2 ^ 16) 16 (by omega) (by omega) (by omega) (by omega)
  unfold croftlaw1_powers_uint16.f
  rw [show (16 : Int) = ((16 : Nat) : Int) from rfl, q1]
  simp only [Option.bind_some]
  rw [c1]
  rw [isP_uint16 (x % 2 ^ 16) (by omega), r1]
  simp only [Option.bind_some, bne_self_eq_false, Bool.false_eq_true, if_false]
  rw [log_uint16 (k + 1) (x % 2 ^ 16) (by omega), r2]
  simp only [Option.bind_some, if_true]
  rw [count_uint16 (x % 2 ^ 16) (by omega), r3]
  simp only [Option.bind_some, bne_self_eq_false, croftlaw1_powers_uint16.j0, Bool.false_eq_true, if_false]
  rw [ceil_uint16 k (x % 2 ^ 16) (by omega), r4]
  simp only [Option.bind_some, wu]
  simp only [if_true, beq_self_eq_true]

theorem log_uint32 (k x : Nat) (hx : x < 4294967296) : bits_Log_uint32.f k (x : Int) = some (pLog x) := by
  unfold bits_Log_uint32.f pLog
  rw [u64_id (by omega)]; rw [len64 k x (by omega)]
  simp only [Option.bind_some]
  have := lenb x (by omega)
  congr 1; unfold wrap64; omega
theorem count_uint32 (x : Nat) (hx : x < 4294967296) : bits_Count_uint32.f (x : Int) = some (pPop x) := by
  unfold bits_Count_uint32.f
  rw [u64_id (by omega)]; rw [pop64 x (by omega)]; rfl
theorem shl_uint32 (n : Nat) (hn : n ≤ 32) : shl .u32 1 (n : Int) = if n < 32 then ((2 ^ n : Nat) : Int) else 0 := by
  unfold shl
  rw [Int.toNat_natCast, Nat.min_eq_left (show n ≤ IntKind.u32.bits by simp [IntKind.bits]; omega), Int.one_mul, IntKind.wrap_u32]
  have e : ((2 : Int) ^ n) = ((2 ^ n : Nat) : Int) := by simp
  rw [e]
  by_cases h : n < 32
  · have h1 : 2 ^ n < 2 ^ 32 := Nat.pow_lt_pow_right (by omega) h
    rw [if_pos h]
    obtain ⟨P, hP⟩ : ∃ P, P = 2 ^ n := ⟨_, rfl⟩
    rw [← hP] at h1 ⊢; omega
  · obtain rfl : n = 32 := by omega
    rw [if_neg h]; decide
theorem ceil_uint32 (k x : Nat) (hx : x < 4294967296) : bits_Ceil_uint32.f k (x : Int) = some (pCeil (2 ^ 32) x) := by
  unfold bits_Ceil_uint32.f pCeil
  by_cases h : x ≤ 1
  · rw [if_pos (by omega), if_pos h]
  · rw [if_neg (by omega), if_neg h]
    have e : ((x : Int) - 1) % 4294967296 = ((x - 1 : Nat) : Int) := by first | omega | (rw [IntKind.wrap_u16]; omega) | (rw [wrap_u64]; omega)
    rw [e, log_uint32 k (x - 1) (by omega)]
    simp only [Option.bind_some, pLog]
    have hl := len_le (x - 1) 32 (by omega) (by omega)
    have e2 : wrap64 ((Lib.bitLen (x - 1) : Int) - 1 + 1) = (Lib.bitLen (x - 1) : Int) := by unfold wrap64; omega
    rw [e2, if_pos (by omega), shl_uint32 _ hl]
    by_cases h3 : Lib.bitLen (x - 1) < 32
    · have hp : 0 < 2 ^ Lib.bitLen (x - 1) := Nat.pow_pos (by omega)
      rw [if_pos h3, if_pos (Nat.pow_lt_pow_right (by omega) h3)]
      congr 2; rw [bne_iff_ne]; omega
    · have h4 : 2 ^ 32 ≤ 2 ^ Lib.bitLen (x - 1) := Nat.pow_le_pow_right (by omega) (by omega)
      rw [if_neg h3, if_neg (by omega)]; rfl
theorem fitc_uint32 (x : Nat) : 0 ≤ (pCeil (2 ^ 32) x).1 ∧ (pCeil (2 ^ 32) x).1 < 4294967296 := by
  unfold pCeil
  by_cases h : x ≤ 1
  · rw [if_pos h]; omega
  · rw [if_neg h]
    by_cases h3 : 2 ^ Lib.bitLen (x - 1) < 2 ^ 32
    · rw [if_pos h3]
      obtain ⟨P, hP⟩ : ∃ P, P = 2 ^ Lib.bitLen (x - 1) := ⟨_, rfl⟩
      rw [← hP] at h3 ⊢; simp only []; omega
    · rw [if_neg h3]; omega
theorem pow_uint32 (k x : Nat) (hx : x < 18446744073709551616) (hk : 300 < k) : croftlaw1_powers_uint32.f k (x : Int) 32 = some true := by
  obtain ⟨k, rfl⟩ : ∃ m, k = m + 1 := ⟨k - 1, by omega⟩
  have q1 := cut_f x 32 hx (by omega)
  have c1 : ((x : Int) % 4294967296) = ((x % 2 ^ 32 : Nat) : Int) := by first | omega | (rw [IntKind.wrap_u16]; omega) | (rw [wrap_u64]; omega)
  skip
  skip
  have f1 := fitc_uint32 (x % 2 ^ 32)
  have wu : IntKind.u64.wrap (pCeil (2 ^ 32) (x % 2 ^ 32)).1 = (pCeil (2 ^ 32) (x % 2 ^ 32)).1 := by rw [wrap_u64]; omega
  have r1 := rIsPower_f (k + 1) (x % 2 ^ 32) 32 (by omega) (by omega) (by omega)
  have r2 := rLog_f (k + 1) (x % 2 ^ 32) 32 (by omega) (by omega) (by omega) (by omega)
  have r3 := rCount_f (k + 1) (x % 2 ^ 32) (by omega) (by omega)
  have r4 := rCeil_f k (x % 2 ^ 32) 32 (by omega) (by omega) (by omega) (by omega)
  unfold croftlaw1_powers_uint32.f
  rw [show (32 : Int) = ((32 : Nat) : Int) from rfl, q1]
  simp only [Option.bind_some]
  rw [c1]
  rw [isP_uint32 (x % 2 ^ 32) (by omega), r1]
  simp only [Option.bind_some, bne_self_eq_false, Bool.false_eq_true, if_false]
  rw [log_uint32 (k + 1) (x % 2 ^ 32) (by omega), r2]
  simp only [Option.bind_some, if_true]
  rw [count_uint32 (x % 2 ^ 32) (by omega), r3]
  simp only [Option.bind_some, bne_self_eq_false, croftlaw1_powers_uint32.j0, Bool.false_eq_true, if_false]
  rw [ceil_uint32 k (x % 2 ^ 32) (by omega), r4]
  simp only [Option.bind_some, wu]
  simp only [if_true, beq_self_eq_true]

theorem log_uint64 (k x : Nat) (hx : x < 18446744073709551616) : bits_Log_uint64.f k (x : Int) = some (pLog x) := by
  unfold bits_Log_uint64.f pLog
  rw [len64 k x (by omega)]
  simp only [Option.bind_some]
  have := lenb x (by omega)
  congr 1; unfold wrap64; omega
theorem count_uint64 (x : Nat) (hx : x < 18446744073709551616) : bits_Count_uint64.f (x : Int) = some (pPop x) := by
  unfold bits_Count_uint64.f
  rw [pop64 x (by omega)]; rfl
theorem shl_uint64 (n : Nat) (hn : n ≤ 64) : shl .u64 1 (n : Int) = if n < 64 then ((2 ^ n : Nat) : Int) else 0 := by
  unfold shl
  rw [Int.toNat_natCast, Nat.min_eq_left (show n ≤ IntKind.u64.bits by simp [IntKind.bits]; omega), Int.one_mul, wrap_u64]
  have e : ((2 : Int) ^ n) = ((2 ^ n : Nat) : Int) := by simp
  rw [e]
  by_cases h : n < 64
  · have h1 : 2 ^ n < 2 ^ 64 := Nat.pow_lt_pow_right (by omega) h
    rw [if_pos h]
    obtain ⟨P, hP⟩ : ∃ P, P = 2 ^ n := ⟨_, rfl⟩
    rw [← hP] at h1 ⊢; omega
  · obtain rfl : n = 64 := by omega
    rw [if_neg h]; decide
theorem ceil_uint64 (k x : Nat) (hx : x < 18446744073709551616) : bits_Ceil_uint64.f k (x : Int) = some (pCeil (2 ^ 64) x) := by
  unfold bits_Ceil_uint64.f pCeil
  by_cases h : x ≤ 1
  · rw [if_pos (by omega), if_pos h]
  · rw [if_neg (by omega), if_neg h]
    have e : IntKind.u64.wrap ((x : Int) - 1) = ((x - 1 : Nat) : Int) := by first | omega | (rw [IntKind.wrap_u16]; omega) | (rw [wrap_u64]; omega)
    rw [e, log_uint64 k (x - 1) (by omega)]
    simp only [Option.bind_some, pLog]
    have hl := len_le (x - 1) 64 (by omega) (by omega)
    have e2 : wrap64 ((Lib.bitLen (x - 1) : Int) - 1 + 1) = (Lib.bitLen (x - 1) : Int) := by unfold wrap64; omega
    rw [e2, if_pos (by omega), shl_uint64 _ hl]
    by_cases h3 : Lib.bitLen (x - 1) < 64
    · have hp : 0 < 2 ^ Lib.bitLen (x - 1) := Nat.pow_pos (by omega)
      rw [if_pos h3, if_pos (Nat.pow_lt_pow_right (by omega) h3)]
      congr 2; rw [bne_iff_ne]; omega
    · have h4 : 2 ^ 64 ≤ 2 ^ Lib.bitLen (x - 1) := Nat.pow_le_pow_right (by omega) (by omega)
      rw [if_neg h3, if_neg (by omega)]; rfl
theorem fitc_uint64 (x : Nat) : 0 ≤ (pCeil (2 ^ 64) x).1 ∧ (pCeil (2 ^ 64) x).1 < 18446744073709551616 := by
  unfold pCeil
  by_cases h : x ≤ 1
  · rw [if_pos h]; omega
  · rw [if_neg h]
    by_cases h3 : 2 ^ Lib.bitLen (x - 1) < 2 ^ 64
    · rw [if_pos h3]
      obtain ⟨P, hP⟩ : ∃ P, P = 2 ^ Lib.bitLen (x - 1) := ⟨_, rfl⟩
      rw [← hP] at h3 ⊢; simp only []; omega
    · rw [if_neg h3]; omega
theorem pow_uint64 (k x : Nat) (hx : x < 18446744073709551616) (hk : 300 < k) : croftlaw1_powers_uint64.f k (x : Int) 64 = some true := by
  obtain ⟨k, rfl⟩ : ∃ m, k = m + 1 := ⟨k - 1, by omega⟩
  have q1 := cut_f x 64 hx (by omega)
  have cx : x % 2 ^ 64 = x := Nat.mod_eq_of_lt hx
  rw [cx] at q1
  have f1 := fitc_uint64 x
  have wu : IntKind.u64.wrap (pCeil (2 ^ 64) x).1 = (pCeil (2 ^ 64) x).1 := by rw [wrap_u64]; omega
  have r1 := rIsPower_f (k + 1) x 64 (by omega) hx (by omega)
  have r2 := rLog_f (k + 1) x 64 (by omega) (by omega) hx (by omega)
  have r3 := rCount_f (k + 1) x (by omega) (by omega)
  have r4 := rCeil_f k x 64 (by omega) (by omega) (by omega) (by omega)
  unfold croftlaw1_powers_uint64.f
  rw [show (64 : Int) = ((64 : Nat) : Int) from rfl, q1]
  simp only [Option.bind_some]
  skip
  rw [isP_uint64 x hx, r1]
  simp only [Option.bind_some, bne_self_eq_false, Bool.false_eq_true, if_false]
  rw [log_uint64 (k + 1) x hx, r2]
  simp only [Option.bind_some, if_true]
  rw [count_uint64 x hx, r3]
  simp only [Option.bind_some, bne_self_eq_false, croftlaw1_powers_uint64.j0, Bool.false_eq_true, if_false]
  rw [ceil_uint64 k x hx, r4]
  simp only [Option.bind_some]
  simp only [if_true, beq_self_eq_true]

theorem log_small (k x : Nat) (hx : x < 256) : croftlaw1_small_74.f k (x : Int) = some (pLog x) := by
  unfold croftlaw1_small_74.f pLog
  rw [u64_id (by omega)]; rw [len64 k x (by omega)]
  simp only [Option.bind_some]
  have := lenb x (by omega)
  congr 1; unfold wrap64; omega
theorem count_small (x : Nat) (hx : x < 256) : croftlaw1_small_75.f (x : Int) = some (pPop x) := by
  unfold croftlaw1_small_75.f
  rw [u64_id (by omega)]; rw [pop64 x (by omega)]; rfl
theorem shl_small (n : Nat) (hn : n ≤ 8) : shl .u8 1 (n : Int) = if n < 8 then ((2 ^ n : Nat) : Int) else 0 := by
  unfold shl
  rw [Int.toNat_natCast, Nat.min_eq_left (show n ≤ IntKind.u8.bits by simp [IntKind.bits]; omega), Int.one_mul, IntKind.wrap_u8]
  have e : ((2 : Int) ^ n) = ((2 ^ n : Nat) : Int) := by simp
  rw [e]
  by_cases h : n < 8
  · have h1 : 2 ^ n < 2 ^ 8 := Nat.pow_lt_pow_right (by omega) h
    rw [if_pos h]
    obtain ⟨P, hP⟩ : ∃ P, P = 2 ^ n := ⟨_, rfl⟩
    rw [← hP] at h1 ⊢; omega
  · obtain rfl : n = 8 := by omega
    rw [if_neg h]; decide
theorem ceil_small (k x : Nat) (hx : x < 256) : croftlaw1_small_76.f k (x : Int) = some (pCeil (2 ^ 8) x) := by
  unfold croftlaw1_small_76.f pCeil
  by_cases h : x ≤ 1
  · rw [if_pos (by omega), if_pos h]
  · rw [if_neg (by omega), if_neg h]
    have e : ((x : Int) - 1) % 256 = ((x - 1 : Nat) : Int) := by first | omega | (rw [IntKind.wrap_u16]; omega) | (rw [wrap_u64]; omega)
    rw [e, log_small k (x - 1) (by omega)]
    simp only [Option.bind_some, pLog]
    have hl := len_le (x - 1) 8 (by omega) (by omega)
    have e2 : wrap64 ((Lib.bitLen (x - 1) : Int) - 1 + 1) = (Lib.bitLen (x - 1) : Int) := by unfold wrap64; omega
    rw [e2, if_pos (by omega), shl_small _ hl]
    by_cases h3 : Lib.bitLen (x - 1) < 8
    · have hp : 0 < 2 ^ Lib.bitLen (x - 1) := Nat.pow_pos (by omega)
      rw [if_pos h3, if_pos (Nat.pow_lt_pow_right (by omega) h3)]
      congr 2; rw [bne_iff_ne]; omega
    · have h4 : 2 ^ 8 ≤ 2 ^ Lib.bitLen (x - 1) := Nat.pow_le_pow_right (by omega) (by omega)
      rw [if_neg h3, if_neg (by omega)]; rfl
theorem fitc_small (x : Nat) : 0 ≤ (pCeil (2 ^ 8) x).1 ∧ (pCeil (2 ^ 8) x).1 < 256 := by
  unfold pCeil
  by_cases h : x ≤ 1
  · rw [if_pos h]; omega
  · rw [if_neg h]
    by_cases h3 : 2 ^ Lib.bitLen (x - 1) < 2 ^ 8
    · rw [if_pos h3]
      obtain ⟨P, hP⟩ : ∃ P, P = 2 ^ Lib.bitLen (x - 1) := ⟨_, rfl⟩
      rw [← hP] at h3 ⊢; simp only []; omega
    · rw [if_neg h3]; omega
theorem pow_small (k x : Nat) (hx : x < 18446744073709551616) (hk : 300 < k) : croftlaw1_small_29.f k (x : Int) 8 = some true := by
  obtain ⟨k, rfl⟩ : ∃ m, k = m + 1 := ⟨k - 1, by omega⟩
  have q1 := cut_f x 8 hx (by omega)
  have c1 : ((x : Int) % 256) = ((x % 2 ^ 8 : Nat) : Int) := by first | omega | (rw [IntKind.wrap_u16]; omega) | (rw [wrap_u64]; omega)
  skip
  skip
  have f1 := fitc_small (x % 2 ^ 8)
  have wu : IntKind.u64.wrap (pCeil (2 ^ 8) (x % 2 ^ 8)).1 = (pCeil (2 ^ 8) (x % 2 ^ 8)).1 := by rw [wrap_u64]; omega
  have r1 := rIsPower_f (k + 1) (x % 2 ^ 8) 8 (by omega) (by omega) (by omega)
  have r2 := rLog_f (k + 1) (x % 2 ^ 8) 8 (by omega) (by omega) (by omega) (by omega)
  have r3 := rCount_f (k + 1) (x % 2 ^ 8) (by omega) (by omega)
  have r4 := rCeil_f k (x % 2 ^ 8) 8 (by omega) (by omega) (by omega) (by omega)
  unfold croftlaw1_small_29.f
  rw [show (8 : Int) = ((8 : Nat) : Int) from rfl, q1]
  simp only [Option.bind_some]
  rw [c1]
  rw [isP_small (x % 2 ^ 8) (by omega), r1]
  simp only [Option.bind_some, bne_self_eq_false, Bool.false_eq_true, if_false]
  rw [log_small (k + 1) (x % 2 ^ 8) (by omega), r2]
  simp only [Option.bind_some, if_true]
  rw [count_small (x % 2 ^ 8) (by omega), r3]
  simp only [Option.bind_some, bne_self_eq_false, croftlaw1_small_29.j0, Bool.false_eq_true, if_false]
  rw [ceil_small k (x % 2 ^ 8) (by omega), r4]
  simp only [Option.bind_some, wu]
  simp only [if_true, beq_self_eq_true]

theorem log_wide (k x : Nat) (hx : x < 18446744073709551616) : croftlaw1_wide_78.f k (x : Int) = some (pLog x) := by
  unfold croftlaw1_wide_78.f pLog
  rw [len64 k x (by omega)]
  simp only [Option.bind_some]
  have := lenb x (by omega)
  congr 1; unfold wrap64; omega
theorem count_wide (x : Nat) (hx : x < 18446744073709551616) : croftlaw1_wide_79.f (x : Int) = some (pPop x) := by
  unfold croftlaw1_wide_79.f
  rw [pop64 x (by omega)]; rfl
theorem shl_wide (n : Nat) (hn : n ≤ 64) : shl .u64 1 (n : Int) = if n < 64 then ((2 ^ n : Nat) : Int) else 0 := by
  unfold shl
  rw [Int.toNat_natCast, Nat.min_eq_left (show n ≤ IntKind.u64.bits by simp [IntKind.bits]; omega), Int.one_mul, wrap_u64]
  have e : ((2 : Int) ^ n) = ((2 ^ n : Nat) : Int) := by simp
  rw [e]
  by_cases h : n < 64
  · have h1 : 2 ^ n < 2 ^ 64 := Nat.pow_lt_pow_right (by omega) h
    rw [if_pos h]
    obtain ⟨P, hP⟩ : ∃ P, P = 2 ^ n := ⟨_, rfl⟩
    rw [← hP] at h1 ⊢; omega
  · obtain rfl : n = 64 := by omega
    rw [if_neg h]; decide
theorem ceil_wide (k x : Nat) (hx : x < 18446744073709551616) : croftlaw1_wide_80.f k (x : Int) = some (pCeil (2 ^ 64) x) := by
  unfold croftlaw1_wide_80.f pCeil
  by_cases h : x ≤ 1
  · rw [if_pos (by omega), if_pos h]
  · rw [if_neg (by omega), if_neg h]
    have e : IntKind.u64.wrap ((x : Int) - 1) = ((x - 1 : Nat) : Int) := by first | omega | (rw [IntKind.wrap_u16]; omega) | (rw [wrap_u64]; omega)
    rw [e, log_wide k (x - 1) (by omega)]
    simp only [Option.bind_some, pLog]
    have hl := len_le (x - 1) 64 (by omega) (by omega)
    have e2 : wrap64 ((Lib.bitLen (x - 1) : Int) - 1 + 1) = (Lib.bitLen (x - 1) : Int) := by unfold wrap64; omega
    rw [e2, if_pos (by omega), shl_wide _ hl]
    by_cases h3 : Lib.bitLen (x - 1) < 64
    · have hp : 0 < 2 ^ Lib.bitLen (x - 1) := Nat.pow_pos (by omega)
      rw [if_pos h3, if_pos (Nat.pow_lt_pow_right (by omega) h3)]
      congr 2; rw [bne_iff_ne]; omega
    · have h4 : 2 ^ 64 ≤ 2 ^ Lib.bitLen (x - 1) := Nat.pow_le_pow_right (by omega) (by omega)
      rw [if_neg h3, if_neg (by omega)]; rfl
theorem fitc_wide (x : Nat) : 0 ≤ (pCeil (2 ^ 64) x).1 ∧ (pCeil (2 ^ 64) x).1 < 18446744073709551616 := by
  unfold pCeil
  by_cases h : x ≤ 1
  · rw [if_pos h]; omega
  · rw [if_neg h]
    by_cases h3 : 2 ^ Lib.bitLen (x - 1) < 2 ^ 64
    · rw [if_pos h3]
      obtain ⟨P, hP⟩ : ∃ P, P = 2 ^ Lib.bitLen (x - 1) := ⟨_, rfl⟩
      rw [← hP] at h3 ⊢; simp only []; omega
    · rw [if_neg h3]; omega
theorem pow_wide (k x : Nat) (hx : x < 18446744073709551616) (hk : 300 < k) : croftlaw1_wide_30.f k (x : Int) 64 = some true := by
  obtain ⟨k, rfl⟩ : ∃ m, k = m + 1 := ⟨k - 1, by omega⟩
  have q1 := cut_f x 64 hx (by omega)
  have cx : x % 2 ^ 64 = x := Nat.mod_eq_of_lt hx
  rw [cx] at q1
  have f1 := fitc_wide x
  have wu : IntKind.u64.wrap (pCeil (2 ^ 64) x).1 = (pCeil (2 ^ 64) x).1 := by rw [wrap_u64]; omega
  have r1 := rIsPower_f (k + 1) x 64 (by omega) hx (by omega)
  have r2 := rLog_f (k + 1) x 64 (by omega) (by omega) hx (by omega)
  have r3 := rCount_f (k + 1) x (by omega) (by omega)
  have r4 := rCeil_f k x 64 (by omega) (by omega) (by omega) (by omega)
  unfold croftlaw1_wide_30.f
  rw [show (64 : Int) = ((64 : Nat) : Int) from rfl, q1]
  simp only [Option.bind_some]
  skip
  rw [isP_wide x hx, r1]
  simp only [Option.bind_some, bne_self_eq_false, Bool.false_eq_true, if_false]
  rw [log_wide (k + 1) x hx, r2]
  simp only [Option.bind_some, if_true]
  rw [count_wide x hx, r3]
  simp only [Option.bind_some, bne_self_eq_false, croftlaw1_wide_30.j0, Bool.false_eq_true, if_false]
  rw [ceil_wide k x hx, r4]
  simp only [Option.bind_some]
  simp only [if_true, beq_self_eq_true]
end Go.Proofs.Ytccpoflhmooanaa.NumF
