/- The document's powers, and whole numbers in their bounds: plain. -/
import Derived.Test.YtccpoflhmooanaaDoorRZ
import Derived.Test.YtccpoflhmooanaaDoorPop
import Derived.Test.YtccpoflhmooanaaDoorNums
import Derived.OpenShut
namespace Go.Proofs.YtccpoflhmooanaaDoor.NumF
open Go.RowKit Go.Proofs.YtccpoflhmooanaaDoor.R Go.Proofs.YtccpoflhmooanaaDoorW.PrintWords Go.Proofs.YtccpoflhmooanaaDoorW.PrintLast Go.Proofs.YtccpoflhmooanaaDoorW.PrintMore Go.Proofs.YtccpoflhmooanaaDoor.Nums
set_option linter.unusedVariables false
set_option linter.unusedSimpArgs false

theorem wrap_u64 (n : Int) : IntKind.u64.wrap n = n % 18446744073709551616 := by simp [IntKind.wrap, IntKind.bits, IntKind.signed]
theorem u64_id {n : Nat} (h : n < 18446744073709551616) : IntKind.u64.wrap (n : Int) = n := by rw [wrap_u64]; omega
theorem wrap64_id {n : Nat} (h : n < 9223372036854775807) : wrap64 ((n : Int) + 1) = ((n + 1 : Nat) : Int) := by unfold wrap64; omega

theorem power_tells (d : Nat) : ∀ (k i n : Nat), i + d = n → n < 64 → d < k → croftref1_Power.l0 k (n : Int) ((2 ^ i : Nat) : Int) (i : Int) = some ((2 ^ n : Nat) : Int) := by
  induction d with
  | zero =>
    intro k i n hi hn hk
    obtain ⟨k, rfl⟩ : ∃ m, k = m + 1 := ⟨k - 1, by omega⟩
    obtain rfl : i = n := by omega
    simp only [croftref1_Power.l0]; rw [if_neg (by omega)]
  | succ d ih =>
    intro k i n hi hn hk
    obtain ⟨k, rfl⟩ : ∃ m, k = m + 1 := ⟨k - 1, by omega⟩
    simp only [croftref1_Power.l0]; rw [if_pos (by omega), wrap64_id (by omega)]
    have e : IntKind.u64.wrap (((2 ^ i : Nat) : Int) * 2) = ((2 ^ (i + 1) : Nat) : Int) := by
      have h1 : 2 ^ (i + 1) < 2 ^ 64 := Nat.pow_lt_pow_right (by omega) (by omega)
      rw [wrap_u64, Nat.pow_succ]; rw [Nat.pow_succ] at h1; omega
    rw [e]
    exact ih k (i + 1) n (by omega) hn (by omega)
theorem power_f (k n : Nat) (hn : n < 64) (hk : 64 < k) : croftref1_Power.f k (n : Int) = some ((2 ^ n : Nat) : Int) := by
  unfold croftref1_Power.f
  exact power_tells n k 0 n (by omega) hn (by omega)

end Go.Proofs.YtccpoflhmooanaaDoor.NumF
