/- How many bits of a number are 1, by adding up halves side by side: plain. -/
import Derived.WalkKit
import Derived.Lib.ItoaNum
namespace Go.Proofs.YtccpoflhmooanaaDoor.Nums
set_option linter.unusedVariables false
open Go.RowKit
open Go.Lib (popAux)

/-- n bytes, each c. -/
def mk : Nat → Nat → Nat
  | 0, _ => 0
  | n + 1, c => 256 * mk n c + c
theorem mk_succ (n c : Nat) : mk (n + 1) c = 256 * mk n c + c := rfl
def h1 (n x : Nat) : Nat := (x / 2 &&& mk n 85) + (x &&& mk n 85)
def h2 (n x : Nat) : Nat := (h1 n x / 4 &&& mk n 51) + (h1 n x &&& mk n 51)
def h3 (n x : Nat) : Nat := (h2 n x / 16 + h2 n x) &&& mk n 15

theorem and_split (y b m c : Nat) (hb : b < 256) (hc : c < 256) : (256 * y + b) &&& (256 * m + c) = 256 * (y &&& m) + (b &&& c) := by
  have h := Nat.div_add_mod ((256 * y + b) &&& (256 * m + c)) (2 ^ 8)
  rw [Nat.and_div_two_pow, Nat.and_mod_two_pow] at h
  have e1 : (256 * y + b) / 2 ^ 8 = y := by omega
  have e2 : (256 * m + c) / 2 ^ 8 = m := by omega
  have e3 : (256 * y + b) % 2 ^ 8 = b := by omega
  have e4 : (256 * m + c) % 2 ^ 8 = c := by omega
  rw [e1, e2, e3, e4] at h
  omega
theorem and_high (s c q b : Nat) (hc : c < 2 ^ s) : (2 ^ s * q + b) &&& c = b &&& c := by
  have hx : c % 2 ^ s = c := Nat.mod_eq_of_lt hc
  have e1 : ∀ z, z &&& c = (z % 2 ^ s) &&& c := fun z => by
    have h := Nat.and_mod_two_pow (a := z) (b := c) (n := s)
    rw [hx] at h
    rw [← h]
    exact (Nat.mod_eq_of_lt (Nat.lt_of_le_of_lt Nat.and_le_right hc)).symm
  rw [e1 (2 ^ s * q + b), e1 b]
  congr 1
  rw [Nat.mul_add_mod]

def b1 (b : Nat) : Nat := (b / 2 &&& 85) + (b &&& 85)
def b2 (b : Nat) : Nat := (b1 b / 4 &&& 51) + (b1 b &&& 51)
def b3 (b : Nat) : Nat := (b2 b / 16 + b2 b) &&& 15
theorem b1_lt : ∀ b, b < 256 → b1 b < 256 := by decide +kernel
theorem b2_lt : ∀ b, b < 256 → b2 b % 16 ≤ 4 ∧ b2 b / 16 ≤ 4 := by decide +kernel
theorem b3_pop : ∀ b, b < 256 → b3 b = popAux 8 b := by decide +kernel
theorem pop8_le : ∀ b, b < 256 → popAux 8 b ≤ 8 := by decide +kernel

theorem h1_byte (n y b : Nat) (hb : b < 256) : h1 (n + 1) (256 * y + b) = 256 * h1 n y + b1 b := by
  unfold h1 b1
  rw [mk_succ]
  have e : (256 * y + b) / 2 = 256 * (y / 2) + (2 ^ 7 * (y % 2) + b / 2) := by omega
  rw [e, and_split _ _ _ _ (by omega) (by omega), and_split _ _ _ _ hb (by omega), and_high 7 85 _ _ (by decide)]
  omega
theorem h2_byte (n y b : Nat) (hb : b < 256) : h2 (n + 1) (256 * y + b) = 256 * h2 n y + b2 b := by
  unfold h2 b2
  rw [h1_byte n y b hb]
  have hl := b1_lt b hb
  generalize h1 n y = z
  generalize b1 b = c at *
  rw [mk_succ]
  have e : (256 * z + c) / 4 = 256 * (z / 4) + (2 ^ 6 * (z % 4) + c / 4) := by omega
  rw [e, and_split _ _ _ _ (by omega) (by omega), and_split _ _ _ _ hl (by omega), and_high 6 51 _ _ (by decide)]
  omega
theorem h2_low (n x : Nat) : h2 n x % 16 ≤ 4 := by
  cases n with
  | zero => simp [h2, h1, mk]
  | succ n =>
    have e : x = 256 * (x / 256) + x % 256 := by omega
    rw [e, h2_byte n _ _ (by omega)]
    have := b2_lt (x % 256) (by omega)
    omega
theorem h3_byte (n y b : Nat) (hb : b < 256) : h3 (n + 1) (256 * y + b) = 256 * h3 n y + b3 b := by
  unfold h3 b3
  rw [h2_byte n y b hb]
  have hl := b2_lt b hb
  have hlow := h2_low n y
  generalize h2 n y = z at *
  generalize b2 b = c at *
  rw [mk_succ]
  have e : (256 * z + c) / 16 + (256 * z + c) = 256 * (z / 16 + z) + (16 * (z % 16) + (c / 16 + c)) := by omega
  rw [e, and_split _ _ _ _ (by omega) (by omega)]
  have := and_high 4 15 (z % 16) (c / 16 + c) (by decide)
  rw [show 16 * (z % 16) = 2 ^ 4 * (z % 16) from rfl, this]
theorem pop_zero (f : Nat) : popAux f 0 = 0 := by induction f with | zero => rfl | succ f ih => simp [popAux, ih]
theorem pop_add (f g : Nat) : ∀ x, popAux (f + g) x = popAux f (x % 2 ^ f) + popAux g (x / 2 ^ f) := by
  induction f with
  | zero => intro x; simp [popAux]
  | succ f ih =>
    intro x
    rw [show f + 1 + g = (f + g) + 1 by omega]
    simp only [popAux]
    rw [ih (x / 2), Nat.pow_succ]
    have e1 : x / 2 % 2 ^ f = x % (2 ^ f * 2) / 2 := by rw [Nat.mul_comm]; exact (Nat.mod_mul_right_div_self x 2 (2 ^ f)).symm
    have e2 : x / 2 / 2 ^ f = x / (2 ^ f * 2) := by rw [Nat.div_div_eq_div_mul, Nat.mul_comm]
    have e3 : x % (2 ^ f * 2) % 2 = x % 2 := Nat.mod_mul_left_mod x (2 ^ f) 2
    rw [e1, e2, e3]; omega
theorem pop_byte (f x : Nat) : popAux (8 + f) x = popAux 8 (x % 256) + popAux f (x / 256) := pop_add 8 f x

theorem mk85 : mk 8 85 = 6148914691236517205 := by decide
theorem mk51 : mk 8 51 = 3689348814741910323 := by decide
theorem mk15 : mk 8 15 = 1085102592571150095 := by decide

/-- The eight sums, byte by byte. -/
theorem h3_bytes (x : Nat) (hx : x < 2 ^ 64) : ∃ p0 p1 p2 p3 p4 p5 p6 p7 y1 y2 y3 y4 y5 y6 : Nat, (p0 ≤ 8 ∧ p1 ≤ 8 ∧ p2 ≤ 8 ∧ p3 ≤ 8 ∧ p4 ≤ 8 ∧ p5 ≤ 8 ∧ p6 ≤ 8 ∧ p7 ≤ 8) ∧
    popAux 64 x = p0 + p1 + p2 + p3 + p4 + p5 + p6 + p7 ∧
    h3 8 x = 256 * y1 + p0 ∧ y1 = 256 * y2 + p1 ∧ y2 = 256 * y3 + p2 ∧ y3 = 256 * y4 + p3 ∧ y4 = 256 * y5 + p4 ∧ y5 = 256 * y6 + p5 ∧ y6 = 256 * p7 + p6 := by
  have st : ∀ n f y, h3 (n + 1) y = 256 * h3 n (y / 256) + popAux 8 (y % 256) ∧ popAux (8 + f) y = popAux 8 (y % 256) + popAux f (y / 256) ∧ popAux 8 (y % 256) ≤ 8 := by
    intro n f y
    refine ⟨?_, pop_byte f y, pop8_le _ (by omega)⟩
    have e : y = 256 * (y / 256) + y % 256 := by omega
    have := h3_byte n (y / 256) (y % 256) (by omega)
    rw [← e, b3_pop _ (by omega)] at this
    exact this
  obtain ⟨a0, c0, d0⟩ := st 7 56 x
  obtain ⟨a1, c1, d1⟩ := st 6 48 (x / 256)
  obtain ⟨a2, c2, d2⟩ := st 5 40 (x / 256 / 256)
  obtain ⟨a3, c3, d3⟩ := st 4 32 (x / 256 / 256 / 256)
  obtain ⟨a4, c4, d4⟩ := st 3 24 (x / 256 / 256 / 256 / 256)
  obtain ⟨a5, c5, d5⟩ := st 2 16 (x / 256 / 256 / 256 / 256 / 256)
  obtain ⟨a6, c6, d6⟩ := st 1 8 (x / 256 / 256 / 256 / 256 / 256 / 256)
  obtain ⟨a7, c7, d7⟩ := st 0 0 (x / 256 / 256 / 256 / 256 / 256 / 256 / 256)
  have z0 : ∀ y, h3 0 y = 0 := fun y => by simp [h3, h2, h1, mk]
  have z1 : ∀ y, popAux 0 y = 0 := fun y => rfl
  rw [z0] at a7
  rw [z1] at c7
  refine ⟨_, _, _, _, _, _, _, _, _, _, _, _, _, _, ⟨d0, d1, d2, d3, d4, d5, d6, d7⟩, ?_, a0, a1, a2, a3, a4, a5, ?_⟩
  · simp only [Nat.reduceAdd] at c0 c1 c2 c3 c4 c5 c6 c7
    rw [c0, c1, c2, c3, c4, c5, c6, c7]; omega
  · rw [a6, a7]; omega

theorem h1_lt (x : Nat) (hx : x < 2 ^ 64) : h1 8 x < 2 ^ 64 := by
  have a : (x / 2 &&& mk 8 85) ≤ mk 8 85 := Nat.and_le_right
  have b : (x &&& mk 8 85) ≤ mk 8 85 := Nat.and_le_right
  unfold h1; rw [mk85] at *; omega
theorem h2_lt (x : Nat) : h2 8 x < 2 ^ 63 := by
  have a : (h1 8 x / 4 &&& mk 8 51) ≤ mk 8 51 := Nat.and_le_right
  have b : (h1 8 x &&& mk 8 51) ≤ mk 8 51 := Nat.and_le_right
  unfold h2; rw [mk51] at *; omega

theorem wrapu (n : Int) : IntKind.u64.wrap n = n % 18446744073709551616 := by simp [IntKind.wrap, IntKind.bits, IntKind.signed]
theorem wrapu_nat {n : Nat} (h : n < 18446744073709551616) : IntKind.u64.wrap (n : Int) = n := by rw [wrapu]; omega
theorem and_u64 (a b : Nat) (ha : a < 18446744073709551616) (hb : b < 18446744073709551616) : Go.bits .and .u64 (a : Int) (b : Int) = ((a &&& b : Nat) : Int) := Go.u64_and_nat a b ha hb

theorem lin {a b c d p q : Nat} (h : a = 256 * c + p) (k : b = 256 * d + q) : a + b = 256 * (c + d) + (p + q) := by omega
theorem and127 (n : Nat) (h : n < 9223372036854775808) : Go.bits .and .i64 (n : Int) 127 = ((n % 128 : Nat) : Int) := by
  have := bits_mask .i64 63 (by decide) (fun n h0 h1 => by rw [IntKind.wrap_i64]; omega) 7 (by decide) (n : Int) (by omega) (by omega)
  have e : ((2 : Int) ^ 7 - 1) = 127 := by decide
  rw [e] at this
  rw [this]; omega
/-- What OnesCount64 reckons. -/
theorem s1 (x : Nat) (hx : x < 2 ^ 64) : IntKind.u64.wrap ((Go.bits .and .u64 ((x : Int) / 2) 6148914691236517205) + (Go.bits .and .u64 (x : Int) 6148914691236517205)) = (h1 8 x : Int) := by
  have hl := h1_lt x hx
  have e : ((x : Int) / 2) = ((x / 2 : Nat) : Int) := by omega
  rw [e, show (6148914691236517205 : Int) = ((6148914691236517205 : Nat) : Int) from rfl, and_u64 _ _ (by omega) (by omega), and_u64 _ _ (by omega) (by omega), ← mk85, ← Int.natCast_add]
  exact wrapu_nat hl
theorem s2 (x : Nat) (hx : x < 2 ^ 64) : IntKind.u64.wrap ((Go.bits .and .u64 ((h1 8 x : Int) / 4) 3689348814741910323) + (Go.bits .and .u64 (h1 8 x : Int) 3689348814741910323)) = (h2 8 x : Int) := by
  have hl := h2_lt x
  have hl1 := h1_lt x hx
  have e : ((h1 8 x : Int) / 4) = ((h1 8 x / 4 : Nat) : Int) := by omega
  rw [e, show (3689348814741910323 : Int) = ((3689348814741910323 : Nat) : Int) from rfl, and_u64 _ _ (by omega) (by omega), and_u64 _ _ (by omega) (by omega), ← mk51, ← Int.natCast_add]
  exact wrapu_nat (show h2 8 x < _ by omega)
theorem s3 (x : Nat) (hx : x < 2 ^ 64) : Go.bits .and .u64 (IntKind.u64.wrap ((h2 8 x : Int) / 16 + (h2 8 x : Int))) 1085102592571150095 = (h3 8 x : Int) := by
  have hl := h2_lt x
  have e : ((h2 8 x : Int) / 16 + (h2 8 x : Int)) = ((h2 8 x / 16 + h2 8 x : Nat) : Int) := by omega
  rw [e, wrapu_nat (by omega), show (1085102592571150095 : Int) = ((1085102592571150095 : Nat) : Int) from rfl, and_u64 _ _ (by omega) (by omega), ← mk15]
  rfl
theorem s4 (x : Nat) (hx : x < 2 ^ 64) : Go.bits .and .i64 (wrap64 (IntKind.u64.wrap
    (IntKind.u64.wrap (IntKind.u64.wrap ((h3 8 x : Int) + (h3 8 x : Int) / 256) + IntKind.u64.wrap ((h3 8 x : Int) + (h3 8 x : Int) / 256) / 65536) +
      IntKind.u64.wrap (IntKind.u64.wrap ((h3 8 x : Int) + (h3 8 x : Int) / 256) + IntKind.u64.wrap ((h3 8 x : Int) + (h3 8 x : Int) / 256) / 65536) / 4294967296))) 127 = (popAux 64 x : Int) := by
  obtain ⟨p0, p1, p2, p3, p4, p5, p6, p7, y1, y2, y3, y4, y5, y6, hl, hp, e0, e1, e2, e3, e4, e5, e6⟩ := h3_bytes x hx
  obtain ⟨y, hy⟩ : ∃ y, y = h3 8 x := ⟨_, rfl⟩
  rw [← hy] at e0 ⊢
  rw [hp]
  clear hp hy hx
  obtain ⟨l0, l1, l2, l3, l4, l5, l6, l7⟩ := hl
  have by6 : y6 ≤ 2056 := by omega
  have by5 : y5 ≤ 526344 := by omega
  have by4 : y4 ≤ 134744072 := by omega
  have by3 : y3 ≤ 34494482440 := by omega
  have by2 : y2 ≤ 8830587504648 := by omega
  have by1 : y1 ≤ 2260630401189896 := by omega
  have by0 : y ≤ 578721382704613384 := by omega
  have d0 : y / 256 = y1 := by omega
  have w1 : IntKind.u64.wrap ((y : Int) + (y : Int) / 256) = ((y + y1 : Nat) : Int) := by rw [wrapu]; omega
  rw [w1]
  obtain ⟨z, hz⟩ : ∃ z, z = y + y1 := ⟨_, rfl⟩
  rw [← hz]
  have z0 : z = 256 * (y1 + y2) + (p0 + p1) := hz.trans (lin e0 e1)
  have z1 : y1 + y2 = 256 * (y2 + y3) + (p1 + p2) := lin e1 e2
  have z2 : y2 + y3 = 256 * (y3 + y4) + (p2 + p3) := lin e2 e3
  have z3 : y3 + y4 = 256 * (y4 + y5) + (p3 + p4) := lin e3 e4
  have z4 : y4 + y5 = 256 * (y5 + y6) + (p4 + p5) := lin e4 e5
  have z5 : y5 + y6 = 256 * (y6 + p7) + (p5 + p6) := lin e5 e6
  have z6 : y6 + p7 = 256 * p7 + (p6 + p7) := by rw [e6, Nat.add_assoc]
  have bz : z ≤ 600000000000000000 := by omega
  clear e0 d0 w1 e6 e5 e4 e3 e2 e1 hz
  obtain ⟨c1, hc1⟩ : ∃ c, c = y1 + y2 := ⟨_, rfl⟩
  obtain ⟨c2, hc2⟩ : ∃ c, c = y2 + y3 := ⟨_, rfl⟩
  obtain ⟨c3, hc3⟩ : ∃ c, c = y3 + y4 := ⟨_, rfl⟩
  obtain ⟨c4, hc4⟩ : ∃ c, c = y4 + y5 := ⟨_, rfl⟩
  obtain ⟨c5, hc5⟩ : ∃ c, c = y5 + y6 := ⟨_, rfl⟩
  obtain ⟨c6, hc6⟩ : ∃ c, c = y6 + p7 := ⟨_, rfl⟩
  rw [← hc1] at z0 z1
  rw [← hc2] at z1 z2
  rw [← hc3] at z2 z3
  rw [← hc4] at z3 z4
  rw [← hc5] at z4 z5
  rw [← hc6] at z5 z6
  clear hc1 hc2 hc3 hc4 hc5 hc6 by6 by5 by4 by3 by2 by1 by0 y y1 y2 y3 y4 y5 y6
  have d1 : z / 65536 = c2 := by clear z2 z3 z4 z5 z6; omega
  have bc2 : c2 ≤ z := by clear z2 z3 z4 z5 z6; omega
  have w2 : IntKind.u64.wrap ((z : Int) + (z : Int) / 65536) = ((z + c2 : Nat) : Int) := by rw [wrapu]; omega
  rw [w2]
  obtain ⟨u, hu⟩ : ∃ u, u = z + c2 := ⟨_, rfl⟩
  rw [← hu]
  have u0 : u = 256 * (c1 + c3) + ((p0 + p1) + (p2 + p3)) := hu.trans (lin z0 z2)
  have u1 : c1 + c3 = 256 * (c2 + c4) + ((p1 + p2) + (p3 + p4)) := lin z1 z3
  have u2 : c2 + c4 = 256 * (c3 + c5) + ((p2 + p3) + (p4 + p5)) := lin z2 z4
  have u3 : c3 + c5 = 256 * (c4 + c6) + ((p3 + p4) + (p5 + p6)) := lin z3 z5
  have u4 : c4 + c6 = 256 * (c5 + p7) + ((p4 + p5) + (p6 + p7)) := lin z4 z6
  have bu : u ≤ 1200000000000000000 := by clear z0 z1 z2 z3 z4 z5 z6 u0 u1 u2 u3 u4; omega
  clear hu w2 d1 bc2 z0 z1 z2 z3 z4 z5 z6 bz
  obtain ⟨f1, hf1⟩ : ∃ c, c = c1 + c3 := ⟨_, rfl⟩
  obtain ⟨f2, hf2⟩ : ∃ c, c = c2 + c4 := ⟨_, rfl⟩
  obtain ⟨f3, hf3⟩ : ∃ c, c = c3 + c5 := ⟨_, rfl⟩
  obtain ⟨f4, hf4⟩ : ∃ c, c = c4 + c6 := ⟨_, rfl⟩
  obtain ⟨f5, hf5⟩ : ∃ c, c = c5 + p7 := ⟨_, rfl⟩
  rw [← hf1] at u0 u1
  rw [← hf2] at u1 u2
  rw [← hf3] at u2 u3
  rw [← hf4] at u3 u4
  rw [← hf5] at u4
  clear hf1 hf2 hf3 hf4 hf5 z c1 c2 c3 c4 c5 c6
  have g1 : u / 256 = f1 := by clear u1 u2 u3 u4; omega
  have g2 : f1 / 256 = f2 := by clear u0 u2 u3 u4; omega
  have g3 : f2 / 256 = f3 := by clear u0 u1 u3 u4; omega
  have g4 : f3 / 256 = f4 := by clear u0 u1 u2 u4; omega
  have d2 : u / 4294967296 = f4 := by rw [show 4294967296 = 256 * 256 * 256 * 256 from rfl, ← Nat.div_div_eq_div_mul, ← Nat.div_div_eq_div_mul, ← Nat.div_div_eq_div_mul, g1, g2, g3, g4]
  have bf : f4 ≤ u := by rw [← d2]; exact Nat.div_le_self _ _
  have d3 : (u : Int) / 4294967296 = (f4 : Int) := by rw [← d2]; rfl
  have u4' := u4
  have u0' := u0
  clear u0 u1 u2 u3 u4 g1 g2 g3 g4 d2
  have w3 : wrap64 (IntKind.u64.wrap ((u : Int) + (u : Int) / 4294967296)) = ((u + f4 : Nat) : Int) := by
    have : IntKind.u64.wrap ((u : Int) + (u : Int) / 4294967296) = ((u + f4 : Nat) : Int) := by rw [d3, wrapu]; omega
    rw [this]; unfold wrap64; omega
  rw [w3]
  have w4 := and127 (u + f4) (by clear u0' u4' w3 d3; omega)
  rw [w4]
  congr 1
  clear w3 w4 d3 bu bf
  omega

/-! ### how many halvings -/
theorem len_zero : Lib.bitLen 0 = 0 := rfl
theorem len_bounds (x : Nat) (hx : x < 2 ^ 64) (h0 : x ≠ 0) : 1 ≤ Lib.bitLen x ∧ 2 ^ (Lib.bitLen x - 1) ≤ x ∧ x < 2 ^ Lib.bitLen x := Go.Lib.bitLenAux_bounds 64 x hx h0
theorem len_unique (x n : Nat) (hx : x < 2 ^ 64) (h1 : 2 ^ n ≤ x) (h2 : x < 2 ^ (n + 1)) : Lib.bitLen x = n + 1 := by
  have hp : 0 < 2 ^ n := Nat.pow_pos (by omega)
  obtain ⟨a, b, c⟩ := len_bounds x hx (by omega)
  have l1 : n < Lib.bitLen x := (Nat.pow_lt_pow_iff_right (by omega : 1 < 2)).1 (Nat.lt_of_le_of_lt h1 c)
  have l2 : Lib.bitLen x - 1 < n + 1 := (Nat.pow_lt_pow_iff_right (by omega : 1 < 2)).1 (Nat.lt_of_le_of_lt b h2)
  omega
theorem len_le (x w : Nat) (hw : w ≤ 64) (hx : x < 2 ^ w) : Lib.bitLen x ≤ w := by
  by_cases h0 : x = 0
  · subst h0; simp [len_zero]
  · have hw2 : 2 ^ w ≤ 2 ^ 64 := Nat.pow_le_pow_right (by omega) hw
    obtain ⟨a, b, c⟩ := len_bounds x (by omega) h0
    have l2 : Lib.bitLen x - 1 < w := (Nat.pow_lt_pow_iff_right (by omega : 1 < 2)).1 (Nat.lt_of_le_of_lt b hx)
    omega

end Go.Proofs.YtccpoflhmooanaaDoor.Nums
