/- Plain facts on powers of 2 and on the bits of numbers: no program in sight. -/
import Derived.WalkKit
namespace Go.Proofs.YtccpoflhmooanaaDoor.Nums

/-- x is one of 2^0, 2^1, ... -/
abbrev IsP (x : Nat) : Prop := x.isPowerOfTwo

theorem isP_iff (x : Nat) : (x ≠ 0 ∧ (x &&& (x - 1)) = 0) ↔ IsP x := Nat.ne_zero_and_sub_one_eq_zero_iff_isPowerOfTwo

theorem andNot_pow (w n x : Nat) (hn : n ≤ w) (hx : x < 2 ^ w) : x &&& (2 ^ w - 1 - (2 ^ n - 1)) = x / 2 ^ n * 2 ^ n := by
  have hp : 2 ^ n ≤ 2 ^ w := Nat.pow_le_pow_right (by omega) hn
  have hp0 : 0 < 2 ^ n := Nat.pow_pos (by omega)
  have e : 2 ^ w - 1 - (2 ^ n - 1) = 2 ^ w - (2 ^ n - 1 + 1) := by omega
  rw [e]
  apply Nat.eq_of_testBit_eq
  intro i
  rw [Nat.testBit_and, Nat.testBit_two_pow_sub_succ (by omega), Nat.testBit_two_pow_sub_one, Nat.testBit_mul_two_pow, Nat.testBit_div_two_pow]
  by_cases h : n ≤ i
  · have h1 : n + (i - n) = i := by omega
    rw [show i - n + n = i by omega]
    by_cases h2 : i < w
    · simp [h, h2]
    · have : x.testBit i = false := Nat.testBit_lt_two_pow (Nat.lt_of_lt_of_le hx (Nat.pow_le_pow_right (by omega) (by omega)))
      simp [this]
  · have h' : i < n := by omega
    simp [h, h']

theorem isP_pow (n : Nat) : IsP (2 ^ n) := ⟨n, rfl⟩
theorem isP_exp {a w : Nat} (h : IsP a) (ha : a < 2 ^ w) : ∃ n, n < w ∧ a = 2 ^ n := by
  obtain ⟨n, rfl⟩ := h
  exact ⟨n, (Nat.pow_lt_pow_iff_right (by omega)).1 ha, rfl⟩

/-- Down and Up, as a number and a truth. -/
def pDn (x a : Nat) : Int × Bool := if IsP a then (((x / a * a : Nat) : Int), true) else (0, false)
def pUp (M x a : Nat) : Int × Bool :=
  if IsP a then
    if x / a * a = x then ((x : Nat), true) else if M ≤ x / a * a + a then (0, false) else (((x / a * a + a : Nat) : Int), true)
  else (0, false)

/-- A multiple of a below x's power: one a more is at most the next power of 2. -/
theorem up_at_most (w n x : Nat) (hn : n < w) (hx : x < 2 ^ w) : x / 2 ^ n * 2 ^ n + 2 ^ n ≤ 2 ^ w := by
  have e : 2 ^ w = 2 ^ (w - n) * 2 ^ n := by rw [← Nat.pow_add]; congr 1; omega
  have hp0 : 0 < 2 ^ n := Nat.pow_pos (by omega)
  have h : x / 2 ^ n < 2 ^ (w - n) := by
    rw [Nat.div_lt_iff_lt_mul hp0, ← e]; exact hx
  have : (x / 2 ^ n + 1) * 2 ^ n ≤ 2 ^ (w - n) * 2 ^ n := Nat.mul_le_mul_right _ h
  rw [Nat.add_mul, Nat.one_mul] at this
  omega

end Go.Proofs.YtccpoflhmooanaaDoor.Nums
