/- Round and Product, plain: both sides answer the same. -/
import Derived.Test.YtihfblnjgaalcaaRK1
import Derived.Lib.ItoaNum
namespace Go.Proofs.Ytihfblnjgaalcaa.OX
open Go Go.RowKit Go.Proofs.YtihfblnjgaalcaaW.PrintWords Go.Proofs.YtihfblnjgaalcaaW.PrintLast Go.Proofs.YtihfblnjgaalcaaW.PrintMore Go.Proofs.Ytihfblnjgaalcaa.R Go.Proofs.Ytihfblnjgaalcaa.OP Go.Proofs.Ytihfblnjgaalcaa.OB Go.Proofs.Ytihfblnjgaalcaa.ON
set_option linter.unusedVariables false
set_option linter.unusedSimpArgs false
theorem refR_f (base limit : Int) {order : Int} (h0 : 0 ≤ order) (h8 : order ≤ 8) : croftref11_R.f base limit order = some (RR order) := by
  unfold croftref11_R.f
  rw [u64_in h0 (by omega), if_pos h0, shl_R h0 h8]
theorem refMay_f (k : Nat) {base limit order : Int} (hb0 : 0 ≤ base) (hb : base < 18446744073709551616) : croftref11_May.f (k + 1) base limit order = some (mayB base limit order) := by
  have ht : croftref11_May.j0 (k + 1) true base limit order = some false := by
    rw [croftref11_May.j0, if_pos rfl]
  unfold croftref11_May.f mayB
  by_cases h0 : order < 0
  · rw [if_pos h0, ht]; simp; omega
  rw [if_neg h0]
  by_cases h8 : order > 8
  · rw [if_pos h8, ht]; simp; omega
  rw [if_neg h8]
  by_cases h1 : limit < 1
  · rw [if_pos h1, ht]; simp; omega
  rw [if_neg h1]
  by_cases h2 : limit > 64
  · rw [if_pos h2, ht]; simp; omega
  rw [if_neg h2, u64_in (x := order) (by omega) (by omega), if_pos (by omega), shl_lim (by omega) (by omega) (by omega) (by omega)]
  have e0 : decide (0 ≤ order) = true := decide_eq_true (by omega)
  have e1 : decide (order ≤ 8) = true := decide_eq_true (by omega)
  have e2 : decide (1 ≤ limit) = true := decide_eq_true (by omega)
  have e3 : decide (limit ≤ 64) = true := decide_eq_true (by omega)
  rw [e0, e1, e2, e3]
  simp only [Bool.true_and]
  have hR := RR_bd (order := order) (by omega) (by omega)
  by_cases h3 : limit * 2 ^ order.toNat > 1024
  · rw [decide_eq_true h3, ht]; simp; omega
  rw [decide_eq_false h3, decide_eq_true (show limit * 2 ^ order.toNat ≤ 1024 by omega)]
  simp only [croftref11_May.j0]
  rw [if_neg (by decide), refR_f base limit (by omega) (by omega)]
  simp only [Option.bind_some, Bool.true_and]
  by_cases h4 : base = 0
  · rw [if_pos h4]; simp [h4]
  rw [if_neg h4, if_neg (by omega), Int.tmod_eq_emod_of_nonneg hb0]
  have hm : limit * RR order = 4096 * (limit * 2 ^ order.toNat) := by unfold RR; rw [← Int.mul_assoc, Int.mul_comm limit 4096, Int.mul_assoc]
  have hp : (0 : Int) ≤ 2 ^ order.toNat := Int.pow_nonneg (by decide)
  have hl : 0 ≤ limit * 2 ^ order.toNat := Int.mul_nonneg (by omega) hp
  by_cases h5 : base % RR order = 0
  · rw [if_pos h5]
    have h4' : decide (base ≠ 0) = true := decide_eq_true h4
    have h5' : decide (base % RR order = 0) = true := decide_eq_true h5
    by_cases h6 : base > 9223372036854775808
    · rw [if_pos h6, h4', h5', decide_eq_false (by omega)]; rfl
    · rw [if_neg h6, u64_in (x := limit) (by omega) (by omega), u64_in (x := limit * RR order) (by omega) (by omega), u64_in (by omega) (by omega), h4', h5']
      simp only [Bool.true_and]
      congr 1
      rw [decide_eq_decide]
      omega
  · rw [if_neg h5]; simp [h5]
theorem power_ref (s : Int) : croftref11_Power.f s = some (powB s) := by
  unfold croftref11_Power.f powB; split <;> rfl
theorem power_or (s : Int) : bits_IsPower_uint64.f s = some (powB s) := by
  unfold bits_IsPower_uint64.f powB; split <;> rfl
theorem bl_bounds (x : Nat) (hx : x < 2 ^ 64) (h0 : x ≠ 0) : 1 ≤ Lib.bitLen x ∧ 2 ^ (Lib.bitLen x - 1) ≤ x ∧ x < 2 ^ Lib.bitLen x := Go.Lib.bitLenAux_bounds 64 x hx h0
theorem cl_len (x : Nat) (hx : x < 18446744073709551616) (h : 1 < x) (n : Nat) : x ≤ 2 ^ n ↔ Lib.bitLen (x - 1) ≤ n := by
  obtain ⟨a, b, c⟩ := bl_bounds (x - 1) (by omega) (by omega)
  constructor
  · intro hn
    have : 2 ^ (Lib.bitLen (x - 1) - 1) < 2 ^ n := by omega
    have := (Nat.pow_lt_pow_iff_right (by omega : 1 < 2)).1 this
    omega
  · intro hn
    have : 2 ^ Lib.bitLen (x - 1) ≤ 2 ^ n := Nat.pow_le_pow_right (by omega) hn
    omega
/-- A power of 2, or 0 where it is too great for 64 bits. -/
def PV (e : Nat) : Int := if e < 64 then ((2 ^ e : Nat) : Int) else 0
theorem PV_lt {e : Nat} (h : e < 64) : PV e = ((2 ^ e : Nat) : Int) := if_pos h
theorem shl_PV (n : Nat) (hn : n ≤ 64) : shl .u64 1 (n : Int) = PV n := by
  unfold shl PV
  rw [Int.toNat_natCast, Nat.min_eq_left (show n ≤ IntKind.u64.bits by simp [IntKind.bits]; omega), Int.one_mul]
  have e : ((2 : Int) ^ n) = ((2 ^ n : Nat) : Int) := by simp
  rw [e]
  by_cases h : n < 64
  · have h1 : 2 ^ n < 2 ^ 64 := Nat.pow_lt_pow_right (by omega) h
    rw [if_pos h]
    exact u64_in (Int.natCast_nonneg _) (Int.ofNat_lt.2 h1)
  · obtain rfl : n = 64 := by omega
    rw [if_neg h]; decide
theorem dbl_PV {e : Nat} (h : e < 64) : IntKind.u64.wrap (PV e * 2) = PV (e + 1) := by
  rw [PV_lt h]
  by_cases h1 : e + 1 < 64
  · have h2 : 2 ^ (e + 1) < 2 ^ 64 := Nat.pow_lt_pow_right (by omega) h1
    rw [PV_lt h1, Nat.pow_succ]
    rw [Nat.pow_succ] at h2
    rw [show ((2 ^ e : Nat) : Int) * 2 = ((2 ^ e * 2 : Nat) : Int) by omega]
    exact u64_in (by omega) (by omega)
  · obtain rfl : e = 63 := by omega
    decide
theorem ceil_f (k x : Nat) (hx : x < 18446744073709551616) (h16 : 16 ≤ x) : bits_Ceil_uint64.f k (x : Int) = some (PV (Lib.bitLen (x - 1)), PV (Lib.bitLen (x - 1)) != 0) := by
  have hl : Lib.bitLen (x - 1) ≤ 64 := Lib.bitLen_le (x - 1) 64 (by omega) (by omega)
  obtain ⟨hp, -, -⟩ := bl_bounds (x - 1) (by omega) (by omega)
  unfold bits_Ceil_uint64.f bits_Log_uint64.f bits_Len64.f
  rw [if_neg (by omega)]
  have e : IntKind.u64.wrap ((x : Int) - 1) = ((x - 1 : Nat) : Int) := by
    rw [u64_in (by omega) (by omega)]; omega
  rw [e, if_pos (by omega), Int.toNat_natCast]
  simp only [Option.bind_some]
  have e2 : wrap64 (wrap64 ((Lib.bitLen (x - 1) : Int) - 1) + 1) = (Lib.bitLen (x - 1) : Int) := by unfold wrap64; omega
  rw [e2, if_pos (by omega), shl_PV _ hl]
/-- What both answer. -/
def sizeR (R : Int) (L : Nat) : Int := if PV L > R then 0 else PV L
theorem size_loop (base limit : Int) {order : Int} (h0 : 0 ≤ order) (h8 : order ≤ 8) (s a x : Nat) (hx : x < 18446744073709551616) (h16 : 16 ≤ x) (hs : s ≤ x) (ha : a ≤ x) (hor : x = s ∨ x = a ∨ x = 16) (d : Nat) :
    ∀ (k e : Nat), e + d = Lib.bitLen (x - 1) → 4 ≤ e → d < k → croftref11_Size.l0 k (s : Int) (a : Int) (PV e) base limit order = some (sizeR (RR order) (Lib.bitLen (x - 1))) := by
  have hl : Lib.bitLen (x - 1) ≤ 64 := Lib.bitLen_le (x - 1) 64 (by omega) (by omega)
  have hR := RR_bd h0 h8
  induction d with
  | zero =>
    intro k e he h4 hk
    obtain ⟨k, rfl⟩ : ∃ m, k = m + 1 := ⟨k - 1, by omega⟩
    obtain rfl : e = Lib.bitLen (x - 1) := he
    simp only [croftref11_Size.l0]
    rw [refR_f base limit h0 h8]
    simp only [Option.bind_some]
    have hfin : (if PV (Lib.bitLen (x - 1)) > RR order then (some (0 : Int)) else some (PV (Lib.bitLen (x - 1)))) = some (sizeR (RR order) (Lib.bitLen (x - 1))) := by
      unfold sizeR; split <;> rfl
    rw [hfin]
    by_cases hz : PV (Lib.bitLen (x - 1)) = 0
    · rw [if_pos hz]
    · rw [if_neg hz]
      have h64 : Lib.bitLen (x - 1) < 64 := by
        apply Nat.lt_of_not_le
        intro h
        exact hz (if_neg (by omega))
      have hc := (cl_len x hx (by omega) (Lib.bitLen (x - 1))).2 (Nat.le_refl _)
      rw [PV_lt h64, if_neg (by omega), if_neg (by omega)]
  | succ d ih =>
    intro k e he h4 hk
    obtain ⟨k, rfl⟩ : ∃ m, k = m + 1 := ⟨k - 1, by omega⟩
    have he64 : e < 64 := by omega
    have hc := (not_congr (cl_len x hx (by omega) e)).2 (by omega)
    have h16' : 2 ^ 4 ≤ 2 ^ e := Nat.pow_le_pow_right (by decide) h4
    have hp : PV e = ((2 ^ e : Nat) : Int) := PV_lt he64
    have hd := dbl_PV he64
    have hi := ih k (e + 1) (by omega) (by omega) (by omega)
    simp only [croftref11_Size.l0]
    rw [hd, hi, if_neg (by omega)]
    by_cases h1 : PV e < (s : Int)
    · rw [if_pos h1]
    · rw [if_neg h1, if_pos (by omega)]
theorem size_ref (base limit : Int) {order : Int} (h0 : 0 ≤ order) (h8 : order ≤ 8) (s a x k : Nat) (hx : x < 18446744073709551616) (h16 : 16 ≤ x) (hs : s ≤ x) (ha : a ≤ x) (hor : x = s ∨ x = a ∨ x = 16) (hk : 64 < k) :
    croftref11_Size.f k base limit order (s : Int) (a : Int) = some (sizeR (RR order) (Lib.bitLen (x - 1))) := by
  have hl : Lib.bitLen (x - 1) ≤ 64 := Lib.bitLen_le (x - 1) 64 (by omega) (by omega)
  obtain ⟨h1, h2, h3⟩ := bl_bounds (x - 1) (by omega) (by omega)
  have h4 : 4 ≤ Lib.bitLen (x - 1) := by
    apply Nat.le_of_not_lt
    intro h
    have : 2 ^ Lib.bitLen (x - 1) ≤ 2 ^ 3 := Nat.pow_le_pow_right (by decide) (by omega)
    omega
  have := size_loop base limit h0 h8 s a x hx h16 hs ha hor (Lib.bitLen (x - 1) - 4) k 4 (by omega) (Nat.le_refl _) (by omega)
  unfold croftref11_Size.f
  exact this
theorem mx_nat (s a : Nat) : mx (mx (s : Int) (a : Int)) 16 = ((max (max s a) 16 : Nat) : Int) := by
  unfold mx; split <;> split <;> omega
/-- What Round answers, on both sides. -/
def roundR (base limit order s a : Int) : Int × Int :=
  if mayB base limit order = true then if powB a = true then
    if sizeR (RR order) (Lib.bitLen (max (max s.toNat a.toNat) 16 - 1)) = 0 then (0, 3) else (sizeR (RR order) (Lib.bitLen (max (max s.toNat a.toNat) 16 - 1)), 0)
  else (0, 1) else (0, 1)
theorem round_or (k : Nat) {base limit order s a : Int} (hb0 : 0 ≤ base) (hb : base < 18446744073709551616) (hs0 : 0 ≤ s) (hs : s < 18446744073709551616) (ha0 : 0 ≤ a) (ha : a < 18446744073709551616) :
    oracle_Round.f (k + 1) base limit order s a = some (roundR base limit order s a) := by
  obtain ⟨s, rfl⟩ := Int.eq_ofNat_of_zero_le hs0
  obtain ⟨a, rfl⟩ := Int.eq_ofNat_of_zero_le ha0
  unfold oracle_Round.f roundR
  rw [may_f hb0 hb, power_or]
  simp only [Option.bind_some, Int.toNat_natCast]
  by_cases hm : mayB base limit order = true
  · obtain ⟨h0, h8, -⟩ := mayB_iff.1 hm
    rw [if_pos hm, if_pos hm]
    by_cases hp : powB (a : Int) = true
    · rw [hp, if_pos rfl]
      simp only [oracle_Round.j0, Bool.not_true]
      rw [if_neg (by decide), mx_nat, ceil_f k _ (by omega) (by omega)]
      simp only [Option.bind_some]
      rw [region_f base limit h0 h8]
      simp only [Option.bind_some]
      have hR := RR_bd h0 h8
      generalize Lib.bitLen (max (max s a) 16 - 1) = L
      unfold sizeR
      by_cases hz : PV L = 0
      · have h0R : ¬ (0 : Int) > RR order := by omega
        rw [hz, if_neg (by decide), if_neg h0R, if_pos rfl]
      · rw [if_pos (by simpa using hz)]
        by_cases hg : PV L > RR order
        · rw [if_pos hg, if_pos hg, if_pos rfl]
        · rw [if_neg hg, if_neg hg, if_neg hz]
    · rw [Bool.eq_false_iff.2 hp]
      rw [if_neg (by decide), Bool.not_false, oracle_Round.j0, if_pos rfl]
  · rw [if_neg hm, if_neg hm]
    rw [oracle_Round.j0, if_pos rfl]
theorem round_ref (k : Nat) (hk : 64 < k) {base limit order s a : Int} (hb0 : 0 ≤ base) (hb : base < 18446744073709551616) (hs0 : 0 ≤ s) (hs : s < 18446744073709551616) (ha0 : 0 ≤ a) (ha : a < 18446744073709551616) :
    croftref11_Round.f (k + 1) base limit order s a = some (roundR base limit order s a) := by
  obtain ⟨s, rfl⟩ := Int.eq_ofNat_of_zero_le hs0
  obtain ⟨a, rfl⟩ := Int.eq_ofNat_of_zero_le ha0
  unfold croftref11_Round.f roundR
  rw [refMay_f k hb0 hb, power_ref]
  simp only [Option.bind_some, Int.toNat_natCast]
  by_cases hm : mayB base limit order = true
  · obtain ⟨h0, h8, -⟩ := mayB_iff.1 hm
    rw [if_pos hm, if_pos hm]
    by_cases hp : powB (a : Int) = true
    · rw [hp, if_pos rfl]
      simp only [croftref11_Round.j0, Bool.not_true]
      rw [if_neg (by decide), size_ref base limit h0 h8 s a (max (max s a) 16) k (by omega) (by omega) (by omega) (by omega) (by omega) hk]
      simp only [Option.bind_some]
      generalize sizeR (RR order) (Lib.bitLen (max (max s a) 16 - 1)) = v
      split <;> rfl
    · rw [Bool.eq_false_iff.2 hp]
      rw [if_neg (by decide), Bool.not_false, croftref11_Round.j0, if_pos rfl]
  · rw [if_neg hm, if_neg hm]
    rw [croftref11_Round.j0, if_pos rfl]
/-- What Product answers, on both sides. -/
def prodR (a b : Int) : Int × Int := if a * b < 18446744073709551616 then (a * b, 0) else (0, 3)
theorem hi_num (p q r z : Nat) (hp : p ≤ 18446744065119617025) (hq : q ≤ 18446744065119617025) (hr : r ≤ 18446744065119617025) (hz : z ≤ 18446744065119617025) :
    z + (q + p / 4294967296) / 4294967296 + ((q + p / 4294967296) % 4294967296 + r) / 4294967296 = (z * 18446744073709551616 + (q + r) * 4294967296 + p) / 18446744073709551616 := by omega
theorem mask_nat (x : Nat) (hx : x < 18446744073709551616) : Go.bits .and .u64 (x : Int) 4294967295 = ((x % 4294967296 : Nat) : Int) := by
  rw [show (4294967295 : Int) = ((4294967295 : Nat) : Int) from rfl, Go.u64_and_nat x 4294967295 hx (by decide)]
  congr 1
  exact Nat.and_two_pow_sub_one_eq_mod x 32
theorem u64_nat {x : Nat} (h : x < 18446744073709551616) : IntKind.u64.wrap (x : Int) = (x : Int) := u64_in (by omega) (by omega)
theorem mul_bd {x y : Nat} (hx : x ≤ 4294967295) (hy : y ≤ 4294967295) : x * y ≤ 18446744065119617025 := Nat.le_trans (Nat.mul_le_mul hx hy) (by decide)
theorem mul_cut (a b ah al bh bl : Nat) (ha : a = ah * 4294967296 + al) (hb : b = bh * 4294967296 + bl) : a * b = (ah * bh) * 18446744073709551616 + (ah * bl + al * bh) * 4294967296 + al * bl := by
  subst ha hb
  simp only [Nat.add_mul, Nat.mul_add]
  have e1 : ah * 4294967296 * (bh * 4294967296) = ah * bh * 18446744073709551616 := by rw [Nat.mul_mul_mul_comm]
  have e2 : ah * 4294967296 * bl = ah * bl * 4294967296 := by rw [Nat.mul_right_comm]
  have e3 : al * (bh * 4294967296) = al * bh * 4294967296 := by rw [Nat.mul_assoc]
  rw [e1, e2, e3]
  omega
theorem mul64_nat (a b : Nat) (ha : a < 18446744073709551616) (hb : b < 18446744073709551616) : bits_Mul64.f (a : Int) (b : Int) = some (((a * b / 18446744073709551616 : Nat) : Int), IntKind.u64.wrap ((a * b : Nat) : Int)) := by
  unfold bits_Mul64.f
  rw [mask_nat a ha, mask_nat b hb, show (a : Int) / 4294967296 = ((a / 4294967296 : Nat) : Int) by omega, show (b : Int) / 4294967296 = ((b / 4294967296 : Nat) : Int) by omega]
  have hc := mul_cut a b (a / 4294967296) (a % 4294967296) (b / 4294967296) (b % 4294967296) (by omega) (by omega)
  have h1 : a / 4294967296 ≤ 4294967295 := by omega
  have h2 : a % 4294967296 ≤ 4294967295 := by omega
  have h3 : b / 4294967296 ≤ 4294967295 := by omega
  have h4 : b % 4294967296 ≤ 4294967295 := by omega
  rw [← Int.natCast_mul a b]
  generalize a / 4294967296 = ah at *
  generalize a % 4294967296 = al at *
  generalize b / 4294967296 = bh at *
  generalize b % 4294967296 = bl at *
  rw [← Int.natCast_mul ah bh, ← Int.natCast_mul ah bl, ← Int.natCast_mul al bl, ← Int.natCast_mul al bh]
  have b1 := mul_bd h1 h3
  have b2 := mul_bd h1 h4
  have b3 := mul_bd h2 h4
  have b4 := mul_bd h2 h3
  have hn := hi_num (al * bl) (ah * bl) (al * bh) (ah * bh) b3 b2 b4 b1
  rw [← hc] at hn
  rw [← hn]
  generalize ah * bh = z at *
  generalize ah * bl = q at *
  generalize al * bl = p at *
  generalize al * bh = r at *
  have hp := u64_nat (x := p) (by omega)
  have hq := u64_nat (x := q) (by omega)
  have hz := u64_nat (x := z) (by omega)
  have hr := u64_nat (x := r) (by omega)
  rw [hp, hq, hz, hr, show (p : Int) / 4294967296 = ((p / 4294967296 : Nat) : Int) by omega, ← Int.natCast_add q]
  have ht := u64_nat (x := q + p / 4294967296) (by omega)
  rw [ht, mask_nat _ (by omega), ← Int.natCast_add _ r]
  have hw := u64_nat (x := (q + p / 4294967296) % 4294967296 + r) (by omega)
  rw [hw, show ((q + p / 4294967296 : Nat) : Int) / 4294967296 = (((q + p / 4294967296) / 4294967296 : Nat) : Int) by omega]
  rw [show (((q + p / 4294967296) % 4294967296 + r : Nat) : Int) / 4294967296 = ((((q + p / 4294967296) % 4294967296 + r) / 4294967296 : Nat) : Int) by omega]
  rw [← Int.natCast_add z]
  have hu := u64_nat (x := z + (q + p / 4294967296) / 4294967296) (by omega)
  rw [hu, ← Int.natCast_add]
  have hv := u64_nat (x := z + (q + p / 4294967296) / 4294967296 + ((q + p / 4294967296) % 4294967296 + r) / 4294967296) (by omega)
  rw [hv]
theorem prod_or {a b : Int} (ha0 : 0 ≤ a) (ha : a < 18446744073709551616) (hb0 : 0 ≤ b) (hb : b < 18446744073709551616) : oracle_Product.f a b = some (prodR a b) := by
  obtain ⟨a, rfl⟩ := Int.eq_ofNat_of_zero_le ha0
  obtain ⟨b, rfl⟩ := Int.eq_ofNat_of_zero_le hb0
  unfold oracle_Product.f prodR
  rw [mul64_nat a b (by omega) (by omega), ← Int.natCast_mul]
  simp only [Option.bind_some]
  generalize a * b = m
  by_cases h : m < 18446744073709551616
  · rw [if_pos (by omega), if_pos (by omega), u64_nat h]
  · rw [if_neg (by omega), if_neg (by omega)]
theorem prod_ref {a b : Int} (ha0 : 0 ≤ a) (ha : a < 18446744073709551616) (hb0 : 0 ≤ b) (hb : b < 18446744073709551616) : croftref11_Product.f a b = some (prodR a b) := by
  obtain ⟨a, rfl⟩ := Int.eq_ofNat_of_zero_le ha0
  obtain ⟨b, rfl⟩ := Int.eq_ofNat_of_zero_le hb0
  unfold croftref11_Product.f prodR
  by_cases hz : a = 0
  · subst hz
    rw [if_pos (by rfl), if_pos (by simp)]
    rw [show ((0 : Nat) : Int) * (b : Int) = 0 by simp]
    rfl
  rw [if_neg (by omega), ← Int.natCast_mul]
  have hd : Int.tdiv (18446744073709551615 : Int) (a : Int) = ((18446744073709551615 / a : Nat) : Int) := by
    rw [Int.tdiv_eq_ediv_of_nonneg (by decide)]
    simp
  have hle : 18446744073709551615 / a ≤ 18446744073709551615 := Nat.div_le_self _ _
  rw [hd, u64_nat (by omega)]
  have hiff : 18446744073709551615 / a < b ↔ 18446744073709551615 < a * b := by
    rw [Nat.div_lt_iff_lt_mul (by omega), Nat.mul_comm]
  by_cases h : 18446744073709551615 / a < b
  · have := hiff.1 h
    rw [if_pos (by omega), if_neg (by omega)]
  · have := (not_congr hiff).1 h
    rw [if_neg (by omega), if_pos (by omega), u64_nat (by omega)]
theorem awake_f : croftlaw11_awake.f 10 = some true := by decide +kernel
theorem awake_le (k : Nat) : croftlaw11_awake.f (10 + k) = some true := by
  induction k with
  | zero => exact awake_f
  | succ k ih => exact croftlaw11_awake.mono (10 + k) _ ih
theorem rounds_f {base limit order s a : Int} (hb0 : 0 ≤ base) (hb : base < 18446744073709551616) (hs0 : 0 ≤ s) (hs : s < 18446744073709551616) (ha0 : 0 ≤ a) (ha : a < 18446744073709551616) :
    croftlaw11_OracleRounds.f 100 base limit order s a = some true := by
  unfold croftlaw11_OracleRounds.f croftlaw11_config.f
  simp only [Option.bind_some]
  rw [round_or 99 hb0 hb hs0 hs ha0 ha, round_ref 99 (by decide) hb0 hb hs0 hs ha0 ha]
  rw [Option.bind_some, Option.bind_some, if_pos rfl, bne_self_eq_false, croftlaw11_OracleRounds.j0]
  rw [if_neg (by decide), prod_or hs0 hs ha0 ha, prod_ref hs0 hs ha0 ha]
  rw [Option.bind_some, Option.bind_some, if_pos rfl, if_pos rfl, awake_le 89]
  rfl
end Go.Proofs.Ytihfblnjgaalcaa.OX
