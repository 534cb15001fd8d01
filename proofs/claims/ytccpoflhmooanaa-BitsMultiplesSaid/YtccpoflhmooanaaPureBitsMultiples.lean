/- BitsMultiples: Up and Down of every two numbers, for every width, are the document's own: no condition. -/
import Derived.Test.YtccpoflhmooanaaPBitsMultiplesx4
import Derived.Test.YtccpoflhmooanaaNums
import Derived.OpenShut
namespace Go.Proofs.Ytccpoflhmooanaa.Pure
open Go.RowKit Go.Proofs.Ytccpoflhmooanaa.PBitsMultiples Go.Proofs.YtccpoflhmooanaaW.PrintWords Go.Proofs.YtccpoflhmooanaaW.PrintLast Go.Proofs.YtccpoflhmooanaaW.PrintMore Go.Proofs.Ytccpoflhmooanaa.Nums
set_option linter.unusedVariables false
set_option linter.unusedSimpArgs false

theorem wrap_u64 (n : Int) : IntKind.u64.wrap n = n % 18446744073709551616 := by simp [IntKind.wrap, IntKind.bits, IntKind.signed]
theorem u64_id {n : Nat} (h : n < 18446744073709551616) : IntKind.u64.wrap (n : Int) = n := by rw [wrap_u64]; omega
theorem wrap64_id {n : Nat} (h : n < 9223372036854775807) : wrap64 ((n : Int) + 1) = ((n + 1 : Nat) : Int) := by unfold wrap64; omega

theorem power_tells (d : Nat) : ∀ (k i n : Nat), i + d = n → n < 64 → d < k → croftref1_Power.l0 k (n : Int) ((2 ^ i : Nat) : Int) (i : Int) = some ((2 ^ n : Nat) : Int) := by
  induction d with
  | zero =>
    intro k i n hi hn hk
    obtain ⟨k, rfl⟩ : ∃ m, k = m + 1 := ⟨k - 1, by omega⟩
    obtain rfl : i = n := by omega
    simp only [croftref1_Power.l0]; rw [if_neg (by omega)]
  | succ d ih =>
    intro k i n hi hn hk
    obtain ⟨k, rfl⟩ : ∃ m, k = m + 1 := ⟨k - 1, by omega⟩
    simp only [croftref1_Power.l0]; rw [if_pos (by omega), wrap64_id (by omega)]
    have e : IntKind.u64.wrap (((2 ^ i : Nat) : Int) * 2) = ((2 ^ (i + 1) : Nat) : Int) := by
      have h1 : 2 ^ (i + 1) < 2 ^ 64 := Nat.pow_lt_pow_right (by omega) (by omega)
      rw [wrap_u64, Nat.pow_succ]; rw [Nat.pow_succ] at h1; omega
    rw [e]
    exact ih k (i + 1) n (by omega) hn (by omega)
theorem power_f (k n : Nat) (hn : n < 64) (hk : 64 < k) : croftref1_Power.f k (n : Int) = some ((2 ^ n : Nat) : Int) := by
  unfold croftref1_Power.f
  exact power_tells n k 0 n (by omega) hn (by omega)

theorem rIsPower_tells (a w : Nat) (hw : w ≤ 64) (d : Nat) : ∀ (k i : Nat), i + d = w → (∀ j, j < i → a ≠ 2 ^ j) → d + 64 < k →
    croftref1_IsPower.l0 k (a : Int) (w : Int) (i : Int) = some (decide (∃ j, j < w ∧ a = 2 ^ j)) := by
  induction d with
  | zero =>
    intro k i hi hno hk
    obtain ⟨k, rfl⟩ : ∃ m, k = m + 1 := ⟨k - 1, by omega⟩
    simp only [croftref1_IsPower.l0]; rw [if_neg (by omega)]
    rw [decide_eq_false]
    rintro ⟨j, hj, e⟩; exact hno j (by omega) e
  | succ d ih =>
    intro k i hi hno hk
    obtain ⟨k, rfl⟩ : ∃ m, k = m + 1 := ⟨k - 1, by omega⟩
    simp only [croftref1_IsPower.l0]; rw [if_pos (by omega), power_f k i (by omega) (by omega)]
    simp only [Option.bind_some]
    by_cases e : a = 2 ^ i
    · rw [if_pos (by omega), decide_eq_true ⟨i, by omega, e⟩]
    · rw [if_neg (by omega), wrap64_id (by omega)]
      refine ih k (i + 1) (by omega) (fun j hj => ?_) (by omega)
      by_cases h : j = i
      · rw [h]; exact e
      · exact hno j (by omega)
theorem rIsPower_f (k a w : Nat) (hw : w ≤ 64) (ha : a < 2 ^ w) (hk : 200 < k) : croftref1_IsPower.f k (a : Int) (w : Int) = some (decide (IsP a)) := by
  unfold croftref1_IsPower.f
  rw [show (0 : Int) = ((0 : Nat) : Int) from rfl, rIsPower_tells a w hw w k 0 (by omega) (fun j hj => by omega) (by omega)]
  congr 1
  rw [decide_eq_decide]
  constructor
  · rintro ⟨j, _, e⟩; exact ⟨j, e⟩
  · intro h; exact isP_exp h ha

theorem rDown_f (k x a w : Nat) (hw : w ≤ 64) (hx : x < 2 ^ w) (ha : a < 2 ^ w) (hk : 200 < k) : croftref1_Down.f k (x : Int) (a : Int) (w : Int) = some (pDn x a) := by
  have hw2 : 2 ^ w ≤ 2 ^ 64 := Nat.pow_le_pow_right (by omega) hw
  unfold croftref1_Down.f pDn
  rw [rIsPower_f k a w hw ha hk]
  simp only [Option.bind_some, decide_eq_true_eq]
  by_cases h : IsP a
  · rw [if_pos h, if_pos h]
    have hpos : a ≠ 0 := by have := Nat.pos_of_isPowerOfTwo h; omega
    rw [if_neg (by omega)]
    have e1 : Int.tdiv (x : Int) (a : Int) = ((x / a : Nat) : Int) := by simp [Int.ofNat_tdiv]
    have l1 : x / a ≤ x := Nat.div_le_self _ _
    have l2 : x / a * a ≤ x := Nat.div_mul_le_self _ _
    rw [e1, u64_id (by omega)]
    rw [show ((x / a : Nat) : Int) * (a : Int) = ((x / a * a : Nat) : Int) by simp, u64_id (by omega)]
  · rw [if_neg h, if_neg h]

theorem cut_top (w : Nat) (hw : w = 8 ∨ w = 16 ∨ w = 32 ∨ w = 64) : croftref1_Cut.f 18446744073709551615 (w : Int) = some ((2 ^ w - 1 : Nat) : Int) := by
  rcases hw with rfl | rfl | rfl | rfl <;> decide +kernel
theorem cut_f (x w : Nat) (hx : x < 18446744073709551616) (hw : w = 8 ∨ w = 16 ∨ w = 32 ∨ w = 64) : croftref1_Cut.f (x : Int) (w : Int) = some ((x % 2 ^ w : Nat) : Int) := by
  have key : ∀ n : Nat, n < 64 → IntKind.u64.wrap (shl .u64 1 (n : Int) - 1) = ((2 ^ n - 1 : Nat) : Int) := by
    intro n hn
    have h1 : 2 ^ n < 2 ^ 64 := Nat.pow_lt_pow_right (by omega) hn
    have h0 : 0 < 2 ^ n := Nat.pow_pos (by omega)
    have e : shl .u64 1 (n : Int) = ((2 ^ n : Nat) : Int) := by
      unfold shl
      rw [Int.toNat_natCast, Nat.min_eq_left (show n ≤ IntKind.u64.bits by simp [IntKind.bits]; omega), Int.one_mul, wrap_u64]
      have : ((2 : Int) ^ n) = ((2 ^ n : Nat) : Int) := by simp
      rw [this]; omega
    rw [e, wrap_u64]; omega
  unfold croftref1_Cut.f
  rcases hw with rfl | rfl | rfl | rfl
  all_goals first
    | (rw [if_pos (by rfl)]; congr 1; omega)
    | (rw [if_neg (by decide), if_pos (by decide), key _ (by omega), Go.u64_and_nat _ _ hx (by omega)]
       rw [Nat.and_two_pow_sub_one_eq_mod])

theorem rUp_f (k x a w : Nat) (hw : w = 8 ∨ w = 16 ∨ w = 32 ∨ w = 64) (hx : x < 2 ^ w) (ha : a < 2 ^ w) (hk : 201 < k) : croftref1_Up.f k (x : Int) (a : Int) (w : Int) = some (pUp (2 ^ w) x a) := by
  have hw64 : w ≤ 64 := by omega
  have hw2 : 2 ^ w ≤ 2 ^ 64 := Nat.pow_le_pow_right (by omega) hw64
  obtain ⟨k, rfl⟩ : ∃ m, k = m + 1 := ⟨k - 1, by omega⟩
  unfold croftref1_Up.f pUp
  rw [rDown_f (k + 1) x a w hw64 hx ha (by omega)]
  simp only [Option.bind_some, pDn]
  by_cases h : IsP a
  · rw [if_pos h, if_pos h]
    simp only [if_true]
    by_cases e : x / a * a = x
    · rw [if_pos e]
      have eb : ((((x / a * a : Nat) : Int)) == (x : Int)) = true := by rw [beq_iff_eq]; omega
      rw [eb]
      simp only [croftref1_Up.j0, if_true]
      rw [e]
    · have eb : ((((x / a * a : Nat) : Int)) == (x : Int)) = false := by rw [beq_eq_false_iff_ne]; omega
      rw [if_neg e, eb]
      simp only [croftref1_Up.j0, Bool.false_eq_true, if_false]
      rw [cut_top w hw]
      simp only [Option.bind_some]
      have l2 : x / a * a ≤ x := Nat.div_mul_le_self _ _
      have e2 : IntKind.u64.wrap (((2 ^ w - 1 : Nat) : Int) - ((x / a * a : Nat) : Int)) = ((2 ^ w - 1 - x / a * a : Nat) : Int) := by rw [wrap_u64]; omega
      rw [e2]
      by_cases h3 : 2 ^ w ≤ x / a * a + a
      · rw [if_pos (by omega), if_pos h3]
      · rw [if_neg (by omega), if_neg h3]
        congr 2
        rw [wrap_u64]; omega
  · rw [if_neg h, if_neg h]
    simp only [Bool.false_eq_true, if_false, croftref1_Up.j0, if_true]


theorem isP_uint8 (a : Nat) (ha : a < 256) : bits_IsPower_uint8.f (a : Int) = some (decide (IsP a)) := by
  unfold bits_IsPower_uint8.f
  by_cases h : a = 0
  · subst h; decide
  · rw [if_neg (by omega)]
    have e : ((a : Int) - 1) % 256 = ((a - 1 : Nat) : Int) := by first | omega | (rw [IntKind.wrap_u16]; omega) | (rw [wrap_u64]; omega)
    rw [e, Go.u8_and_nat a (a - 1) ha (by omega)]
    congr 1
    rw [Bool.eq_iff_iff, beq_iff_eq, decide_eq_true_eq, ← isP_iff]
    omega
theorem dn_uint8 (x a : Nat) (hx : x < 256) (ha : a < 256) : bits_Down_uint8.f (x : Int) (a : Int) = some (pDn x a) := by
  unfold bits_Down_uint8.f pDn
  rw [isP_uint8 a ha]
  simp only [Option.bind_some, decide_eq_true_eq]
  by_cases h : IsP a
  · rw [if_pos h, if_pos h]
    have e : ((a : Int) - 1) % 256 = ((a - 1 : Nat) : Int) := by have := Nat.pos_of_isPowerOfTwo h; first | omega | (rw [IntKind.wrap_u16]; omega) | (rw [wrap_u64]; omega)
    rw [e, Go.u8_andNot_nat x (a - 1) hx (by omega)]
    obtain ⟨n, hn, rfl⟩ := isP_exp (w := 8) h (by omega)
    have := andNot_pow 8 n x (by omega) (by omega)
    rw [← this]
  · rw [if_neg h, if_neg h]
theorem up_uint8 (k x a : Nat) (hx : x < 256) (ha : a < 256) : bits_Up_uint8.f (k + 1) (x : Int) (a : Int) = some (pUp (2 ^ 8) x a) := by
  unfold bits_Up_uint8.f pUp
  rw [dn_uint8 x a hx ha]
  simp only [Option.bind_some, pDn]
  by_cases h : IsP a
  · rw [if_pos h, if_pos h]
    simp only [if_true]
    by_cases e : x / a * a = x
    · rw [if_pos e]
      have eb : ((((x / a * a : Nat) : Int)) == (x : Int)) = true := by rw [beq_iff_eq]; omega
      rw [eb]
      simp only [bits_Up_uint8.j0, if_true]
      rw [e]
    · have eb : ((((x / a * a : Nat) : Int)) == (x : Int)) = false := by rw [beq_eq_false_iff_ne]; omega
      rw [if_neg e, eb]
      simp only [bits_Up_uint8.j0, Bool.false_eq_true, if_false]
      have l1 : x / a * a + a ≤ 2 ^ 8 := by
        obtain ⟨n, hn, rfl⟩ := isP_exp (w := 8) h (by omega)
        exact up_at_most 8 n x hn (by omega)
      have hpos := Nat.pos_of_isPowerOfTwo h
      by_cases h3 : 2 ^ 8 ≤ x / a * a + a
      · rw [if_pos (by omega), if_pos h3]
      · rw [if_neg (by omega), if_neg h3]
        congr 2
        omega
  · rw [if_neg h, if_neg h]
    simp only [Bool.false_eq_true, if_false, bits_Up_uint8.j0, if_true]

theorem fit_uint8 (x a : Nat) (hx : x < 256) (ha : a < 256) : 0 ≤ (pUp (2 ^ 8) x a).1 ∧ (pUp (2 ^ 8) x a).1 < 18446744073709551616 ∧ 0 ≤ (pDn x a).1 ∧ (pDn x a).1 < 18446744073709551616 := by
  have l2 : x / a * a ≤ x := Nat.div_mul_le_self _ _
  unfold pUp pDn
  by_cases h : IsP a
  · simp only [if_pos h]
    by_cases e : x / a * a = x
    · simp only [if_pos e]; omega
    · simp only [if_neg e]
      by_cases h3 : 2 ^ 8 ≤ x / a * a + a
      · simp only [if_pos h3]; omega
      · simp only [if_neg h3]; omega
  · simp only [if_neg h]; omega
theorem mul_uint8 (k x a : Nat) (hx : x < 18446744073709551616) (ha : a < 18446744073709551616) (hk : 300 < k) : croftlaw1_multiples_uint8.f k (x : Int) (a : Int) 8 = some true := by
  obtain ⟨k, rfl⟩ : ∃ m, k = m + 1 := ⟨k - 1, by omega⟩
  have q1 := cut_f x 8 hx (by omega)
  have q2 := cut_f a 8 ha (by omega)
  have c1 : ((x : Int) % 256) = ((x % 2 ^ 8 : Nat) : Int) := by first | omega | (rw [IntKind.wrap_u16]; omega) | (rw [wrap_u64]; omega)
  have c2 : ((a : Int) % 256) = ((a % 2 ^ 8 : Nat) : Int) := by first | omega | (rw [IntKind.wrap_u16]; omega) | (rw [wrap_u64]; omega)
  have f1 := fit_uint8 (x % 2 ^ 8) (a % 2 ^ 8) (by omega) (by omega)
  have wu : IntKind.u64.wrap (pUp (2 ^ 8) (x % 2 ^ 8) (a % 2 ^ 8)).1 = (pUp (2 ^ 8) (x % 2 ^ 8) (a % 2 ^ 8)).1 := by rw [wrap_u64]; omega
  have wd : IntKind.u64.wrap (pDn (x % 2 ^ 8) (a % 2 ^ 8)).1 = (pDn (x % 2 ^ 8) (a % 2 ^ 8)).1 := by rw [wrap_u64]; omega
  have u1 := up_uint8 k (x % 2 ^ 8) (a % 2 ^ 8) (by omega) (by omega)
  have u2 := rUp_f (k + 1) (x % 2 ^ 8) (a % 2 ^ 8) 8 (by omega) (by omega) (by omega) (by omega)
  have d1 := dn_uint8 (x % 2 ^ 8) (a % 2 ^ 8) (by omega) (by omega)
  have d2 := rDown_f k (x % 2 ^ 8) (a % 2 ^ 8) 8 (by omega) (by omega) (by omega) (by omega)
  skip
  unfold croftlaw1_multiples_uint8.f
  rw [show (8 : Int) = ((8 : Nat) : Int) from rfl, q1, q2]
  simp only [Option.bind_some]
  rw [c1, c2]
  rw [u1, u2]
  simp only [Option.bind_some, wu]
  simp only [if_true, bne_self_eq_false, croftlaw1_multiples_uint8.j0, Bool.false_eq_true, if_false]
  rw [c1, c2]
  rw [d1, d2]
  simp only [Option.bind_some, wd]
  simp only [if_true, beq_self_eq_true]

theorem isP_uint16 (a : Nat) (ha : a < 65536) : bits_IsPower_uint16.f (a : Int) = some (decide (IsP a)) := by
  unfold bits_IsPower_uint16.f
  by_cases h : a = 0
  · subst h; decide
  · rw [if_neg (by omega)]
    have e : IntKind.u16.wrap ((a : Int) - 1) = ((a - 1 : Nat) : Int) := by first | omega | (rw [IntKind.wrap_u16]; omega) | (rw [wrap_u64]; omega)
    rw [e, Go.u16_and_nat a (a - 1) ha (by omega)]
    congr 1
    rw [Bool.eq_iff_iff, beq_iff_eq, decide_eq_true_eq, ← isP_iff]
    omega
theorem dn_uint16 (x a : Nat) (hx : x < 65536) (ha : a < 65536) : bits_Down_uint16.f (x : Int) (a : Int) = some (pDn x a) := by
  unfold bits_Down_uint16.f pDn
  rw [isP_uint16 a ha]
  simp only [Option.bind_some, decide_eq_true_eq]
  by_cases h : IsP a
  · rw [if_pos h, if_pos h]
    have e : IntKind.u16.wrap ((a : Int) - 1) = ((a - 1 : Nat) : Int) := by have := Nat.pos_of_isPowerOfTwo h; first | omega | (rw [IntKind.wrap_u16]; omega) | (rw [wrap_u64]; omega)
    rw [e, Go.u16_andNot_nat x (a - 1) hx (by omega)]
    obtain ⟨n, hn, rfl⟩ := isP_exp (w := 16) h (by omega)
    have := andNot_pow 16 n x (by omega) (by omega)
    rw [← this]
  · rw [if_neg h, if_neg h]
theorem up_uint16 (k x a : Nat) (hx : x < 65536) (ha : a < 65536) : bits_Up_uint16.f (k + 1) (x : Int) (a : Int) = some (pUp (2 ^ 16) x a) := by
  unfold bits_Up_uint16.f pUp
  rw [dn_uint16 x a hx ha]
  simp only [Option.bind_some, pDn]
  by_cases h : IsP a
  · rw [if_pos h, if_pos h]
    simp only [if_true]
    by_cases e : x / a * a = x
    · rw [if_pos e]
      have eb : ((((x / a * a : Nat) : Int)) == (x : Int)) = true := by rw [beq_iff_eq]; omega
      rw [eb]
      simp only [bits_Up_uint16.j0, if_true]
      rw [e]
    · have eb : ((((x / a * a : Nat) : Int)) == (x : Int)) = false := by rw [beq_eq_false_iff_ne]; omega
      rw [if_neg e, eb]
      simp only [bits_Up_uint16.j0, Bool.false_eq_true, if_false]
      have l1 : x / a * a + a ≤ 2 ^ 16 := by
        obtain ⟨n, hn, rfl⟩ := isP_exp (w := 16) h (by omega)
        exact up_at_most 16 n x hn (by omega)
      have hpos := Nat.pos_of_isPowerOfTwo h
      by_cases h3 : 2 ^ 16 ≤ x / a * a + a
      · rw [if_pos (by rw [IntKind.wrap_u16]; omega), if_pos h3]
      · rw [if_neg (by rw [IntKind.wrap_u16]; omega), if_neg h3]
        congr 2
        rw [IntKind.wrap_u16]; omega
  · rw [if_neg h, if_neg h]
    simp only [Bool.false_eq_true, if_false, bits_Up_uint16.j0, if_true]

theorem fit_uint16 (x a : Nat) (hx : x < 65536) (ha : a < 65536) : 0 ≤ (pUp (2 ^ 16) x a).1 ∧ (pUp (2 ^ 16) x a).1 < 18446744073709551616 ∧ 0 ≤ (pDn x a).1 ∧ (pDn x a).1 < 18446744073709551616 := by
  have l2 : x / a * a ≤ x := Nat.div_mul_le_self _ _
  unfold pUp pDn
  by_cases h : IsP a
  · simp only [if_pos h]
    by_cases e : x / a * a = x
    · simp only [if_pos e]; omega
    · simp only [if_neg e]
      by_cases h3 : 2 ^ 16 ≤ x / a * a + a
      · simp only [if_pos h3]; omega
      · simp only [if_neg h3]; omega
  · simp only [if_neg h]; omega
theorem mul_uint16 (k x a : Nat) (hx : x < 18446744073709551616) (ha : a < 18446744073709551616) (hk : 300 < k) : croftlaw1_multiples_uint16.f k (x : Int) (a : Int) 16 = some true := by
  obtain ⟨k, rfl⟩ : ∃ m, k = m + 1 := ⟨k - 1, by omega⟩
  have q1 := cut_f x 16 hx (by omega)
  have q2 := cut_f a 16 ha (by omega)
  have c1 : (IntKind.u16.wrap (x : Int)) = ((x % 2 ^ 16 : Nat) : Int) := by first | omega | (rw [IntKind.wrap_u16]; omega) | (rw [wrap_u64]; omega)
  have c2 : (IntKind.u16.wrap (a : Int)) = ((a % 2 ^ 16 : Nat) : Int) := by first | omega | (rw [IntKind.wrap_u16]; omega) | (rw [wrap_u64]; omega)
  have f1 := fit_uint16 (x % 2 ^ 16) (a % 2 ^ 16) (by omega) (by omega)
  have wu : IntKind.u64.wrap (pUp (2 ^ 16) (x % 2 ^ 16) (a % 2 ^ 16)).1 = (pUp (2 ^ 16) (x % 2 ^ 16) (a % 2 ^ 16)).1 := by rw [wrap_u64]; omega
  have wd : IntKind.u64.wrap (pDn (x % 2 ^ 16) (a % 2 ^ 16)).1 = (pDn (x % 2 ^ 16) (a % 2 ^ 16)).1 := by rw [wrap_u64]; omega
  have u1 := up_uint16 k (x % 2 ^ 16) (a % 2 ^ 16) (by omega) (by omega)
  have u2 := rUp_f (k + 1) (x % 2 ^ 16) (a % 2 ^ 16) 16 (by omega) (by omega) (by omega) (by omega)
  have d1 := dn_uint16 (x % 2 ^ 16) (a % 2 ^ 16) (by omega) (by omega)
  have d2 := rDown_f k (x % 2 ^ 16) (a % 2 ^ 16) 16 (by omega) (by omega) (by omega) (by omega)
  skip
  unfold croftlaw1_multiples_uint16.f
  rw [show (16 : Int) = ((16 : Nat) : Int) from rfl, q1, q2]
  simp only [Option.bind_some]
  rw [c1, c2]
  rw [u1, u2]
  simp only [Option.bind_some, wu]
  simp only [if_true, bne_self_eq_false, croftlaw1_multiples_uint16.j0, Bool.false_eq_true, if_false]
  rw [c1, c2]
  rw [d1, d2]
  simp only [Option.bind_some, wd]
  simp only [if_true, beq_self_eq_true]

theorem isP_uint32 (a : Nat) (ha : a < 4294967296) : bits_IsPower_uint32.f (a : Int) = some (decide (IsP a)) := by
  unfold bits_IsPower_uint32.f
  by_cases h : a = 0
  · subst h; decide
  · rw [if_neg (by omega)]
    have e : ((a : Int) - 1) % 4294967296 = ((a - 1 : Nat) : Int) := by first | omega | (rw [IntKind.wrap_u16]; omega) | (rw [wrap_u64]; omega)
    rw [e, Go.u32_and_nat a (a - 1) ha (by omega)]
    congr 1
    rw [Bool.eq_iff_iff, beq_iff_eq, decide_eq_true_eq, ← isP_iff]
    omega
theorem dn_uint32 (x a : Nat) (hx : x < 4294967296) (ha : a < 4294967296) : bits_Down_uint32.f (x : Int) (a : Int) = some (pDn x a) := by
  unfold bits_Down_uint32.f pDn
  rw [isP_uint32 a ha]
  simp only [Option.bind_some, decide_eq_true_eq]
  by_cases h : IsP a
  · rw [if_pos h, if_pos h]
    have e : ((a : Int) - 1) % 4294967296 = ((a - 1 : Nat) : Int) := by have := Nat.pos_of_isPowerOfTwo h; first | omega | (rw [IntKind.wrap_u16]; omega) | (rw [wrap_u64]; omega)
    rw [e, Go.u32_andNot_nat x (a - 1) hx (by omega)]
    obtain ⟨n, hn, rfl⟩ := isP_exp (w := 32) h (by omega)
    have := andNot_pow 32 n x (by omega) (by omega)
    rw [← this]
  · rw [if_neg h, if_neg h]
theorem up_uint32 (k x a : Nat) (hx : x < 4294967296) (ha : a < 4294967296) : bits_Up_uint32.f (k + 1) (x : Int) (a : Int) = some (pUp (2 ^ 32) x a) := by
  unfold bits_Up_uint32.f pUp
  rw [dn_uint32 x a hx ha]
  simp only [Option.bind_some, pDn]
  by_cases h : IsP a
  · rw [if_pos h, if_pos h]
    simp only [if_true]
    by_cases e : x / a * a = x
    · rw [if_pos e]
      have eb : ((((x / a * a : Nat) : Int)) == (x : Int)) = true := by rw [beq_iff_eq]; omega
      rw [eb]
      simp only [bits_Up_uint32.j0, if_true]
      rw [e]
    · have eb : ((((x / a * a : Nat) : Int)) == (x : Int)) = false := by rw [beq_eq_false_iff_ne]; omega
      rw [if_neg e, eb]
      simp only [bits_Up_uint32.j0, Bool.false_eq_true, if_false]
      have l1 : x / a * a + a ≤ 2 ^ 32 := by
        obtain ⟨n, hn, rfl⟩ := isP_exp (w := 32) h (by omega)
        exact up_at_most 32 n x hn (by omega)
      have hpos := Nat.pos_of_isPowerOfTwo h
      by_cases h3 : 2 ^ 32 ≤ x / a * a + a
      · rw [if_pos (by omega), if_pos h3]
      · rw [if_neg (by omega), if_neg h3]
        congr 2
        omega
  · rw [if_neg h, if_neg h]
    simp only [Bool.false_eq_true, if_false, bits_Up_uint32.j0, if_true]

theorem fit_uint32 (x a : Nat) (hx : x < 4294967296) (ha : a < 4294967296) : 0 ≤ (pUp (2 ^ 32) x a).1 ∧ (pUp (2 ^ 32) x a).1 < 18446744073709551616 ∧ 0 ≤ (pDn x a).1 ∧ (pDn x a).1 < 18446744073709551616 := by
  have l2 : x / a * a ≤ x := Nat.div_mul_le_self _ _
  unfold pUp pDn
  by_cases h : IsP a
  · simp only [if_pos h]
    by_cases e : x / a * a = x
    · simp only [if_pos e]; omega
    · simp only [if_neg e]
      by_cases h3 : 2 ^ 32 ≤ x / a * a + a
      · simp only [if_pos h3]; omega
      · simp only [if_neg h3]; omega
  · simp only [if_neg h]; omega
theorem mul_uint32 (k x a : Nat) (hx : x < 18446744073709551616) (ha : a < 18446744073709551616) (hk : 300 < k) : croftlaw1_multiples_uint32.f k (x : Int) (a : Int) 32 = some true := by
  obtain ⟨k, rfl⟩ : ∃ m, k = m + 1 := ⟨k - 1, by omega⟩
  have q1 := cut_f x 32 hx (by omega)
  have q2 := cut_f a 32 ha (by omega)
  have c1 : ((x : Int) % 4294967296) = ((x % 2 ^ 32 : Nat) : Int) := by first | omega | (rw [IntKind.wrap_u16]; omega) | (rw [wrap_u64]; omega)
  have c2 : ((a : Int) % 4294967296) = ((a % 2 ^ 32 : Nat) : Int) := by first | omega | (rw [IntKind.wrap_u16]; omega) | (rw [wrap_u64]; omega)
  have f1 := fit_uint32 (x % 2 ^ 32) (a % 2 ^ 32) (by omega) (by omega)
  have wu : IntKind.u64.wrap (pUp (2 ^ 32) (x % 2 ^ 32) (a % 2 ^ 32)).1 = (pUp (2 ^ 32) (x % 2 ^ 32) (a % 2 ^ 32)).1 := by rw [wrap_u64]; omega
  have wd : IntKind.u64.wrap (pDn (x % 2 ^ 32) (a % 2 ^ 32)).1 = (pDn (x % 2 ^ 32) (a % 2 ^ 32)).1 := by rw [wrap_u64]; omega
  have u1 := up_uint32 k (x % 2 ^ 32) (a % 2 ^ 32) (by omega) (by omega)
  have u2 := rUp_f (k + 1) (x % 2 ^ 32) (a % 2 ^ 32) 32 (by omega) (by omega) (by omega) (by omega)
  have d1 := dn_uint32 (x % 2 ^ 32) (a % 2 ^ 32) (by omega) (by omega)
  have d2 := rDown_f k (x % 2 ^ 32) (a % 2 ^ 32) 32 (by omega) (by omega) (by omega) (by omega)
  skip
  unfold croftlaw1_multiples_uint32.f
  rw [show (32 : Int) = ((32 : Nat) : Int) from rfl, q1, q2]
  simp only [Option.bind_some]
  rw [c1, c2]
  rw [u1, u2]
  simp only [Option.bind_some, wu]
  simp only [if_true, bne_self_eq_false, croftlaw1_multiples_uint32.j0, Bool.false_eq_true, if_false]
  rw [c1, c2]
  rw [d1, d2]
  simp only [Option.bind_some, wd]
  simp only [if_true, beq_self_eq_true]

theorem isP_uint64 (a : Nat) (ha : a < 18446744073709551616) : bits_IsPower_uint64.f (a : Int) = some (decide (IsP a)) := by
  unfold bits_IsPower_uint64.f
  by_cases h : a = 0
  · subst h; decide
  · rw [if_neg (by omega)]
    have e : IntKind.u64.wrap ((a : Int) - 1) = ((a - 1 : Nat) : Int) := by first | omega | (rw [IntKind.wrap_u16]; omega) | (rw [wrap_u64]; omega)
    rw [e, Go.u64_and_nat a (a - 1) ha (by omega)]
    congr 1
    rw [Bool.eq_iff_iff, beq_iff_eq, decide_eq_true_eq, ← isP_iff]
    omega
theorem dn_uint64 (x a : Nat) (hx : x < 18446744073709551616) (ha : a < 18446744073709551616) : bits_Down_uint64.f (x : Int) (a : Int) = some (pDn x a) := by
  unfold bits_Down_uint64.f pDn
  rw [isP_uint64 a ha]
  simp only [Option.bind_some, decide_eq_true_eq]
  by_cases h : IsP a
  · rw [if_pos h, if_pos h]
    have e : IntKind.u64.wrap ((a : Int) - 1) = ((a - 1 : Nat) : Int) := by have := Nat.pos_of_isPowerOfTwo h; first | omega | (rw [IntKind.wrap_u16]; omega) | (rw [wrap_u64]; omega)
    rw [e, Go.u64_andNot_nat x (a - 1) hx (by omega)]
    obtain ⟨n, hn, rfl⟩ := isP_exp (w := 64) h (by omega)
    have := andNot_pow 64 n x (by omega) (by omega)
    rw [← this]
  · rw [if_neg h, if_neg h]
theorem up_uint64 (k x a : Nat) (hx : x < 18446744073709551616) (ha : a < 18446744073709551616) : bits_Up_uint64.f (k + 1) (x : Int) (a : Int) = some (pUp (2 ^ 64) x a) := by
  unfold bits_Up_uint64.f pUp
  rw [dn_uint64 x a hx ha]
  simp only [Option.bind_some, pDn]
  by_cases h : IsP a
  · rw [if_pos h, if_pos h]
    simp only [if_true]
    by_cases e : x / a * a = x
    · rw [if_pos e]
      have eb : ((((x / a * a : Nat) : Int)) == (x : Int)) = true := by rw [beq_iff_eq]; omega
      rw [eb]
      simp only [bits_Up_uint64.j0, if_true]
      rw [e]
    · have eb : ((((x / a * a : Nat) : Int)) == (x : Int)) = false := by rw [beq_eq_false_iff_ne]; omega
      rw [if_neg e, eb]
      simp only [bits_Up_uint64.j0, Bool.false_eq_true, if_false]
      have l1 : x / a * a + a ≤ 2 ^ 64 := by
        obtain ⟨n, hn, rfl⟩ := isP_exp (w := 64) h (by omega)
        exact up_at_most 64 n x hn (by omega)
      have hpos := Nat.pos_of_isPowerOfTwo h
      by_cases h3 : 2 ^ 64 ≤ x / a * a + a
      · rw [if_pos (by rw [wrap_u64]; omega), if_pos h3]
      · rw [if_neg (by rw [wrap_u64]; omega), if_neg h3]
        congr 2
        rw [wrap_u64]; omega
  · rw [if_neg h, if_neg h]
    simp only [Bool.false_eq_true, if_false, bits_Up_uint64.j0, if_true]

theorem fit_uint64 (x a : Nat) (hx : x < 18446744073709551616) (ha : a < 18446744073709551616) : 0 ≤ (pUp (2 ^ 64) x a).1 ∧ (pUp (2 ^ 64) x a).1 < 18446744073709551616 ∧ 0 ≤ (pDn x a).1 ∧ (pDn x a).1 < 18446744073709551616 := by
  have l2 : x / a * a ≤ x := Nat.div_mul_le_self _ _
  unfold pUp pDn
  by_cases h : IsP a
  · simp only [if_pos h]
    by_cases e : x / a * a = x
    · simp only [if_pos e]; omega
    · simp only [if_neg e]
      by_cases h3 : 2 ^ 64 ≤ x / a * a + a
      · simp only [if_pos h3]; omega
      · simp only [if_neg h3]; omega
  · simp only [if_neg h]; omega
theorem mul_uint64 (k x a : Nat) (hx : x < 18446744073709551616) (ha : a < 18446744073709551616) (hk : 300 < k) : croftlaw1_multiples_uint64.f k (x : Int) (a : Int) 64 = some true := by
  obtain ⟨k, rfl⟩ : ∃ m, k = m + 1 := ⟨k - 1, by omega⟩
  have q1 := cut_f x 64 hx (by omega)
  have q2 := cut_f a 64 ha (by omega)
  have cx : x % 2 ^ 64 = x := Nat.mod_eq_of_lt hx
  have ca : a % 2 ^ 64 = a := Nat.mod_eq_of_lt ha
  have f1 := fit_uint64 x a hx ha
  have wu : IntKind.u64.wrap (pUp (2 ^ 64) x a).1 = (pUp (2 ^ 64) x a).1 := by rw [wrap_u64]; omega
  have wd : IntKind.u64.wrap (pDn x a).1 = (pDn x a).1 := by rw [wrap_u64]; omega
  have u1 := up_uint64 k x a hx ha
  have u2 := rUp_f (k + 1) x a 64 (by omega) hx ha (by omega)
  have d1 := dn_uint64 x a hx ha
  have d2 := rDown_f k x a 64 (by omega) hx ha (by omega)
  rw [cx] at q1; rw [ca] at q2
  unfold croftlaw1_multiples_uint64.f
  rw [show (64 : Int) = ((64 : Nat) : Int) from rfl, q1, q2]
  simp only [Option.bind_some]
  skip
  rw [u1, u2]
  simp only [Option.bind_some]
  simp only [if_true, bne_self_eq_false, croftlaw1_multiples_uint64.j0, Bool.false_eq_true, if_false]
  skip
  rw [d1, d2]
  simp only [Option.bind_some]
  simp only [if_true, beq_self_eq_true]

theorem isP_small (a : Nat) (ha : a < 256) : croftlaw1_small_73.f (a : Int) = some (decide (IsP a)) := by
  unfold croftlaw1_small_73.f
  by_cases h : a = 0
  · subst h; decide
  · rw [if_neg (by omega)]
    have e : ((a : Int) - 1) % 256 = ((a - 1 : Nat) : Int) := by first | omega | (rw [IntKind.wrap_u16]; omega) | (rw [wrap_u64]; omega)
    rw [e, Go.u8_and_nat a (a - 1) ha (by omega)]
    congr 1
    rw [Bool.eq_iff_iff, beq_iff_eq, decide_eq_true_eq, ← isP_iff]
    omega
theorem dn_small (x a : Nat) (hx : x < 256) (ha : a < 256) : croftlaw1_small_59.f (x : Int) (a : Int) = some (pDn x a) := by
  unfold croftlaw1_small_59.f pDn
  rw [isP_small a ha]
  simp only [Option.bind_some, decide_eq_true_eq]
  by_cases h : IsP a
  · rw [if_pos h, if_pos h]
    have e : ((a : Int) - 1) % 256 = ((a - 1 : Nat) : Int) := by have := Nat.pos_of_isPowerOfTwo h; first | omega | (rw [IntKind.wrap_u16]; omega) | (rw [wrap_u64]; omega)
    rw [e, Go.u8_andNot_nat x (a - 1) hx (by omega)]
    obtain ⟨n, hn, rfl⟩ := isP_exp (w := 8) h (by omega)
    have := andNot_pow 8 n x (by omega) (by omega)
    rw [← this]
  · rw [if_neg h, if_neg h]
theorem up_small (k x a : Nat) (hx : x < 256) (ha : a < 256) : croftlaw1_small_58.f (k + 1) (x : Int) (a : Int) = some (pUp (2 ^ 8) x a) := by
  unfold croftlaw1_small_58.f pUp
  rw [dn_small x a hx ha]
  simp only [Option.bind_some, pDn]
  by_cases h : IsP a
  · rw [if_pos h, if_pos h]
    simp only [if_true]
    by_cases e : x / a * a = x
    · rw [if_pos e]
      have eb : ((((x / a * a : Nat) : Int)) == (x : Int)) = true := by rw [beq_iff_eq]; omega
      rw [eb]
      simp only [croftlaw1_small_58.j0, if_true]
      rw [e]
    · have eb : ((((x / a * a : Nat) : Int)) == (x : Int)) = false := by rw [beq_eq_false_iff_ne]; omega
      rw [if_neg e, eb]
      simp only [croftlaw1_small_58.j0, Bool.false_eq_true, if_false]
      have l1 : x / a * a + a ≤ 2 ^ 8 := by
        obtain ⟨n, hn, rfl⟩ := isP_exp (w := 8) h (by omega)
        exact up_at_most 8 n x hn (by omega)
      have hpos := Nat.pos_of_isPowerOfTwo h
      by_cases h3 : 2 ^ 8 ≤ x / a * a + a
      · rw [if_pos (by omega), if_pos h3]
      · rw [if_neg (by omega), if_neg h3]
        congr 2
        omega
  · rw [if_neg h, if_neg h]
    simp only [Bool.false_eq_true, if_false, croftlaw1_small_58.j0, if_true]

theorem fit_small (x a : Nat) (hx : x < 256) (ha : a < 256) : 0 ≤ (pUp (2 ^ 8) x a).1 ∧ (pUp (2 ^ 8) x a).1 < 18446744073709551616 ∧ 0 ≤ (pDn x a).1 ∧ (pDn x a).1 < 18446744073709551616 := by
  have l2 : x / a * a ≤ x := Nat.div_mul_le_self _ _
  unfold pUp pDn
  by_cases h : IsP a
  · simp only [if_pos h]
    by_cases e : x / a * a = x
    · simp only [if_pos e]; omega
    · simp only [if_neg e]
      by_cases h3 : 2 ^ 8 ≤ x / a * a + a
      · simp only [if_pos h3]; omega
      · simp only [if_neg h3]; omega
  · simp only [if_neg h]; omega
theorem mul_small (k x a : Nat) (hx : x < 18446744073709551616) (ha : a < 18446744073709551616) (hk : 300 < k) : croftlaw1_small_14.f k (x : Int) (a : Int) 8 = some true := by
  obtain ⟨k, rfl⟩ : ∃ m, k = m + 1 := ⟨k - 1, by omega⟩
  have q1 := cut_f x 8 hx (by omega)
  have q2 := cut_f a 8 ha (by omega)
  have c1 : ((x : Int) % 256) = ((x % 2 ^ 8 : Nat) : Int) := by first | omega | (rw [IntKind.wrap_u16]; omega) | (rw [wrap_u64]; omega)
  have c2 : ((a : Int) % 256) = ((a % 2 ^ 8 : Nat) : Int) := by first | omega | (rw [IntKind.wrap_u16]; omega) | (rw [wrap_u64]; omega)
  have f1 := fit_small (x % 2 ^ 8) (a % 2 ^ 8) (by omega) (by omega)
  have wu : IntKind.u64.wrap (pUp (2 ^ 8) (x % 2 ^ 8) (a % 2 ^ 8)).1 = (pUp (2 ^ 8) (x % 2 ^ 8) (a % 2 ^ 8)).1 := by rw [wrap_u64]; omega
  have wd : IntKind.u64.wrap (pDn (x % 2 ^ 8) (a % 2 ^ 8)).1 = (pDn (x % 2 ^ 8) (a % 2 ^ 8)).1 := by rw [wrap_u64]; omega
  have u1 := up_small k (x % 2 ^ 8) (a % 2 ^ 8) (by omega) (by omega)
  have u2 := rUp_f (k + 1) (x % 2 ^ 8) (a % 2 ^ 8) 8 (by omega) (by omega) (by omega) (by omega)
  have d1 := dn_small (x % 2 ^ 8) (a % 2 ^ 8) (by omega) (by omega)
  have d2 := rDown_f k (x % 2 ^ 8) (a % 2 ^ 8) 8 (by omega) (by omega) (by omega) (by omega)
  skip
  unfold croftlaw1_small_14.f
  rw [show (8 : Int) = ((8 : Nat) : Int) from rfl, q1, q2]
  simp only [Option.bind_some]
  rw [c1, c2]
  rw [u1, u2]
  simp only [Option.bind_some, wu]
  simp only [if_true, bne_self_eq_false, croftlaw1_small_14.j0, Bool.false_eq_true, if_false]
  rw [c1, c2]
  rw [d1, d2]
  simp only [Option.bind_some, wd]
  simp only [if_true, beq_self_eq_true]

theorem isP_wide (a : Nat) (ha : a < 18446744073709551616) : croftlaw1_wide_77.f (a : Int) = some (decide (IsP a)) := by
  unfold croftlaw1_wide_77.f
  by_cases h : a = 0
  · subst h; decide
  · rw [if_neg (by omega)]
    have e : IntKind.u64.wrap ((a : Int) - 1) = ((a - 1 : Nat) : Int) := by first | omega | (rw [IntKind.wrap_u16]; omega) | (rw [wrap_u64]; omega)
    rw [e, Go.u64_and_nat a (a - 1) ha (by omega)]
    congr 1
    rw [Bool.eq_iff_iff, beq_iff_eq, decide_eq_true_eq, ← isP_iff]
    omega
theorem dn_wide (x a : Nat) (hx : x < 18446744073709551616) (ha : a < 18446744073709551616) : croftlaw1_wide_61.f (x : Int) (a : Int) = some (pDn x a) := by
  unfold croftlaw1_wide_61.f pDn
  rw [isP_wide a ha]
  simp only [Option.bind_some, decide_eq_true_eq]
  by_cases h : IsP a
  · rw [if_pos h, if_pos h]
    have e : IntKind.u64.wrap ((a : Int) - 1) = ((a - 1 : Nat) : Int) := by have := Nat.pos_of_isPowerOfTwo h; first | omega | (rw [IntKind.wrap_u16]; omega) | (rw [wrap_u64]; omega)
    rw [e, Go.u64_andNot_nat x (a - 1) hx (by omega)]
    obtain ⟨n, hn, rfl⟩ := isP_exp (w := 64) h (by omega)
    have := andNot_pow 64 n x (by omega) (by omega)
    rw [← this]
  · rw [if_neg h, if_neg h]
theorem up_wide (k x a : Nat) (hx : x < 18446744073709551616) (ha : a < 18446744073709551616) : croftlaw1_wide_60.f (k + 1) (x : Int) (a : Int) = some (pUp (2 ^ 64) x a) := by
  unfold croftlaw1_wide_60.f pUp
  rw [dn_wide x a hx ha]
  simp only [Option.bind_some, pDn]
  by_cases h : IsP a
  · rw [if_pos h, if_pos h]
    simp only [if_true]
    by_cases e : x / a * a = x
    · rw [if_pos e]
      have eb : ((((x / a * a : Nat) : Int)) == (x : Int)) = true := by rw [beq_iff_eq]; omega
      rw [eb]
      simp only [croftlaw1_wide_60.j0, if_true]
      rw [e]
    · have eb : ((((x / a * a : Nat) : Int)) == (x : Int)) = false := by rw [beq_eq_false_iff_ne]; omega
      rw [if_neg e, eb]
      simp only [croftlaw1_wide_60.j0, Bool.false_eq_true, if_false]
      have l1 : x / a * a + a ≤ 2 ^ 64 := by
        obtain ⟨n, hn, rfl⟩ := isP_exp (w := 64) h (by omega)
        exact up_at_most 64 n x hn (by omega)
      have hpos := Nat.pos_of_isPowerOfTwo h
      by_cases h3 : 2 ^ 64 ≤ x / a * a + a
      · rw [if_pos (by rw [wrap_u64]; omega), if_pos h3]
      · rw [if_neg (by rw [wrap_u64]; omega), if_neg h3]
        congr 2
        rw [wrap_u64]; omega
  · rw [if_neg h, if_neg h]
    simp only [Bool.false_eq_true, if_false, croftlaw1_wide_60.j0, if_true]

theorem fit_wide (x a : Nat) (hx : x < 18446744073709551616) (ha : a < 18446744073709551616) : 0 ≤ (pUp (2 ^ 64) x a).1 ∧ (pUp (2 ^ 64) x a).1 < 18446744073709551616 ∧ 0 ≤ (pDn x a).1 ∧ (pDn x a).1 < 18446744073709551616 := by
  have l2 : x / a * a ≤ x := Nat.div_mul_le_self _ _
  unfold pUp pDn
  by_cases h : IsP a
  · simp only [if_pos h]
    by_cases e : x / a * a = x
    · simp only [if_pos e]; omega
    · simp only [if_neg e]
      by_cases h3 : 2 ^ 64 ≤ x / a * a + a
      · simp only [if_pos h3]; omega
      · simp only [if_neg h3]; omega
  · simp only [if_neg h]; omega
theorem mul_wide (k x a : Nat) (hx : x < 18446744073709551616) (ha : a < 18446744073709551616) (hk : 300 < k) : croftlaw1_wide_15.f k (x : Int) (a : Int) 64 = some true := by
  obtain ⟨k, rfl⟩ : ∃ m, k = m + 1 := ⟨k - 1, by omega⟩
  have q1 := cut_f x 64 hx (by omega)
  have q2 := cut_f a 64 ha (by omega)
  have cx : x % 2 ^ 64 = x := Nat.mod_eq_of_lt hx
  have ca : a % 2 ^ 64 = a := Nat.mod_eq_of_lt ha
  have f1 := fit_wide x a hx ha
  have wu : IntKind.u64.wrap (pUp (2 ^ 64) x a).1 = (pUp (2 ^ 64) x a).1 := by rw [wrap_u64]; omega
  have wd : IntKind.u64.wrap (pDn x a).1 = (pDn x a).1 := by rw [wrap_u64]; omega
  have u1 := up_wide k x a hx ha
  have u2 := rUp_f (k + 1) x a 64 (by omega) hx ha (by omega)
  have d1 := dn_wide x a hx ha
  have d2 := rDown_f k x a 64 (by omega) hx ha (by omega)
  rw [cx] at q1; rw [ca] at q2
  unfold croftlaw1_wide_15.f
  rw [show (64 : Int) = ((64 : Nat) : Int) from rfl, q1, q2]
  simp only [Option.bind_some]
  skip
  rw [u1, u2]
  simp only [Option.bind_some]
  simp only [if_true, bne_self_eq_false, croftlaw1_wide_15.j0, Bool.false_eq_true, if_false]
  skip
  rw [d1, d2]
  simp only [Option.bind_some]
  simp only [if_true, beq_self_eq_true]

theorem BitsMultiples : croftlaw1_BitsMultiples.Pure := by
  intro a0 a1 w0 w1
  have b0 := bounds_u64 w0
  have b1 := bounds_u64 w1
  obtain ⟨x, rfl⟩ := Int.eq_ofNat_of_zero_le b0.1
  obtain ⟨a, rfl⟩ := Int.eq_ofNat_of_zero_le b1.1
  refine ⟨1000, ?_⟩
  have hx : x < 18446744073709551616 := by omega
  have ha : a < 18446744073709551616 := by omega
  unfold croftlaw1_BitsMultiples.f
  rw [mul_uint8 1000 x a hx ha (by omega), mul_uint16 1000 x a hx ha (by omega), mul_uint32 1000 x a hx ha (by omega), mul_uint64 1000 x a hx ha (by omega), mul_small 1000 x a hx ha (by omega), mul_wide 1000 x a hx ha (by omega)]
  simp
end Go.Proofs.Ytccpoflhmooanaa.Pure
