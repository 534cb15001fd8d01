/- What the oracle's smallest functions answer. -/
import Derived.Test.YtihfblnjgaalcaaOPure
import Derived.Lib.Hide
namespace Go.Proofs.Ytihfblnjgaalcaa.OB
open Go Go.RowKit Go.Proofs.YtihfblnjgaalcaaW.PrintWords Go.Proofs.YtihfblnjgaalcaaW.PrintLast Go.Proofs.YtihfblnjgaalcaaW.PrintMore Go.Proofs.Ytihfblnjgaalcaa.R Go.Proofs.Ytihfblnjgaalcaa.OM Go.Proofs.Ytihfblnjgaalcaa.OP
set_option linter.unusedVariables false
set_option linter.unusedSimpArgs false
theorem u64_in {x : Int} (h0 : 0 ≤ x) (h : x < 18446744073709551616) : IntKind.u64.wrap x = x := by
 unfold IntKind.wrap
 simp [IntKind.bits, IntKind.signed]
 omega
theorem i64_in' {x : Int} (h0 : -9223372036854775808 ≤ x) (h : x < 9223372036854775808) : IntKind.i64.wrap x = x := IntWalk.i64_in _ ⟨h0, by omega⟩
theorem ord_cases {order : Int} (h0 : 0 ≤ order) (h8 : order ≤ 8) : order = 0 ∨ order = 1 ∨ order = 2 ∨ order = 3 ∨ order = 4 ∨ order = 5 ∨ order = 6 ∨ order = 7 ∨ order = 8 := by omega
theorem shl_R {order : Int} (h0 : 0 ≤ order) (h8 : order ≤ 8) : shl .u64 4096 order = RR order := by
 rcases ord_cases h0 h8 with rfl | rfl | rfl | rfl | rfl | rfl | rfl | rfl | rfl <;> decide
theorem region_f (base limit : Int) {order : Int} (h0 : 0 ≤ order) (h8 : order ≤ 8) : oracle_region.f base limit order = some (RR order) := by
 unfold oracle_region.f
 rw [if_pos h0, shl_R h0 h8]
theorem size_f (base limit : Int) {order : Int} (h0 : 0 ≤ order) (h8 : order ≤ 8) (s : Int) : oracle_size.f base limit order s = some (sizeB order s) := by
 unfold oracle_size.f bits_IsPower_uint64.f sizeB
 have e : (if s = 0 then (some false) else (some ((Go.bits .and .u64 s (IntKind.u64.wrap (s - 1))) == 0))) = some (powB s) := by
  unfold powB; split <;> rfl
 rw [e]
 simp only [Option.bind_some]
 cases hp : powB s with
 | false => simp
 | true =>
  rw [if_pos rfl, region_f base limit h0 h8]
  simp only [Option.bind_some]
  by_cases h : s ≥ 16
  ·rw [if_pos h]; simp; omega
  ·rw [if_neg h]; simp; omega
theorem shl_lim {limit order : Int} (h0 : 0 ≤ order) (h8 : order ≤ 8) (h1 : 1 ≤ limit) (h2 : limit ≤ 64) : shl .i64 limit order = limit * 2 ^ order.toNat := by
 unfold shl
 have hb : (2 : Int) ^ order.toNat = 1 ∨ (2 : Int) ^ order.toNat = 2 ∨ (2 : Int) ^ order.toNat = 4 ∨ (2 : Int) ^ order.toNat = 8 ∨ (2 : Int) ^ order.toNat = 16 ∨ (2 : Int) ^ order.toNat = 32 ∨ (2 : Int) ^ order.toNat = 64 ∨ (2 : Int) ^ order.toNat = 128 ∨ (2 : Int) ^ order.toNat = 256 := by
  rcases ord_cases h0 h8 with rfl | rfl | rfl | rfl | rfl | rfl | rfl | rfl | rfl <;> simp
 rw [Nat.min_eq_left (by simp [IntKind.bits]; omega)]
 apply i64_in' <;> (rcases hb with h | h | h | h | h | h | h | h | h <;> rw [h] <;> omega)
theorem may_f {base limit order : Int} (hb0 : 0 ≤ base) (hb : base < 18446744073709551616) : oracle_may.f base limit order = some (mayB base limit order) := by
 unfold oracle_may.f mayB
 by_cases h0 : order < 0
 ·rw [if_pos h0]; simp; omega
 rw [if_neg h0]
 by_cases h8 : order > 8
 ·rw [if_pos h8]; simp; omega
 rw [if_neg h8]
 by_cases h1 : limit < 1
 ·rw [if_pos h1]; simp; omega
 rw [if_neg h1]
 by_cases h2 : limit > 64
 ·rw [if_pos h2]; simp; omega
 rw [if_neg h2, if_pos (by omega), shl_lim (by omega) (by omega) (by omega) (by omega), region_f base limit (by omega) (by omega)]
 have e0 : decide (0 ≤ order) = true := decide_eq_true (by omega)
 have e1 : decide (order ≤ 8) = true := decide_eq_true (by omega)
 have e2 : decide (1 ≤ limit) = true := decide_eq_true (by omega)
 have e3 : decide (limit ≤ 64) = true := decide_eq_true (by omega)
 rw [e0, e1, e2, e3]
 simp only [Option.bind_some, Bool.true_and]
 have hR := RR_bd (order := order) (by omega) (by omega)
 by_cases h3 : limit * 2 ^ order.toNat > 1024
 ·rw [if_pos h3]; simp; omega
 rw [if_neg h3, decide_eq_true (show limit * 2 ^ order.toNat ≤ 1024 by omega)]
 by_cases h4 : base = 0
 ·rw [if_pos h4]; simp [h4]
 rw [if_neg h4, if_neg (by omega), Int.tmod_eq_emod_of_nonneg hb0]
 have hm : limit * RR order = 4096 * (limit * 2 ^ order.toNat) := by unfold RR; rw [← Int.mul_assoc, Int.mul_comm limit 4096, Int.mul_assoc]
 have hp : (0 : Int) ≤ 2 ^ order.toNat := Int.pow_nonneg (by decide)
 have hl : 0 ≤ limit * 2 ^ order.toNat := Int.mul_nonneg (by omega) hp
 by_cases h5 : base % RR order = 0
 ·rw [if_pos h5, u64_in (x := limit) (by omega) (by omega), u64_in (x := limit * RR order) (by omega) (by omega), u64_in (by omega) (by omega)]
  simp [h4, h5]
 ·rw [if_neg h5]; simp [h5]
theorem size_c (base limit : Int) {order : Int} (h0 : 0 ≤ order) (h8 : order ≤ 8) (s : Int) (r : Bool) (hr : sizeB order s = r) (w : World) :
  Calls Try.prog 46 #[.agg #[.int .u64 base, .int .i64 limit, .int .i64 order], .int .u64 s] w fun e w' => e = .returned (.bool r) ∧ Below w.heap.size w w' :=
 oracle_size.calls base limit order s _ w (by rw [size_f base limit h0 h8, hr])
theorem may_c {base limit order : Int} (hb0 : 0 ≤ base) (hb : base < 18446744073709551616) (r : Bool) (hr : mayB base limit order = r) (w : World) :
  Calls Try.prog 38 #[.agg #[.int .u64 base, .int .i64 limit, .int .i64 order]] w fun e w' => e = .returned (.bool r) ∧ Below w.heap.size w w' :=
 oracle_may.calls base limit order _ w (by rw [may_f hb0 hb, hr])
end Go.Proofs.Ytihfblnjgaalcaa.OB
