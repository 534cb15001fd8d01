/- Contracts of the calls on numbers, at every number of their kind; and plain facts on what they answer. -/
import Derived.Test.YtccpoflhmooanaaNumF
namespace Go.Proofs.Ytccpoflhmooanaa.NumC
open Go.RowKit Go.Proofs.YtccpoflhmooanaaW.PrintWords Go.Proofs.YtccpoflhmooanaaW.PrintLast Go.Proofs.YtccpoflhmooanaaW.PrintMore Go.Proofs.Ytccpoflhmooanaa.Nums Go.Proofs.Ytccpoflhmooanaa.NumF
set_option linter.unusedVariables false
set_option linter.unusedSimpArgs false
def pIsP (x : Nat) : Bool := decide (IsP x)

theorem pop_zero_iff (f : Nat) : ∀ x, x < 2 ^ f → (Lib.popAux f x = 0 ↔ x = 0) := by
  induction f with
  | zero => intro x hx; simp [Lib.popAux]; omega
  | succ f ih =>
    intro x hx
    rw [Nat.pow_succ] at hx
    have := ih (x / 2) (by omega)
    simp only [Lib.popAux]
    omega
theorem pop_one_iff (f : Nat) : ∀ x, x < 2 ^ f → (Lib.popAux f x = 1 ↔ IsP x) := by
  induction f with
  | zero =>
    intro x hx
    obtain rfl : x = 0 := by omega
    simp only [Lib.popAux]
    constructor
    · intro h; cases h
    · rintro ⟨n, hn⟩; have := Nat.pow_pos (n := n) (show 0 < 2 by omega); omega
  | succ f ih =>
    intro x hx
    rw [Nat.pow_succ] at hx
    have h1 := ih (x / 2) (by omega)
    have h0 := pop_zero_iff f (x / 2) (by omega)
    simp only [Lib.popAux]
    constructor
    · intro h
      by_cases ho : x % 2 = 1
      · have : x / 2 = 0 := h0.1 (by omega)
        exact ⟨0, by omega⟩
      · obtain ⟨n, hn⟩ := h1.1 (by omega)
        exact ⟨n + 1, by rw [Nat.pow_succ]; omega⟩
    · rintro ⟨n, hn⟩
      cases n with
      | zero =>
        have : Lib.popAux f (x / 2) = 0 := h0.2 (by omega)
        omega
      | succ n =>
        rw [Nat.pow_succ] at hn
        have : Lib.popAux f (x / 2) = 1 := h1.2 ⟨n, by omega⟩
        omega
theorem pop_iff (x : Nat) (hx : x < 18446744073709551616) : pPop x = 1 ↔ IsP x := by
  have := pop_one_iff 64 x hx
  rw [← this]
  unfold pPop
  omega


theorem isP_uint8_c (x : Nat) (hx : x < 256) (w : World) : Calls Try.prog 37 #[.int .u8 (x : Int)] w fun e w' => e = .returned (.bool (pIsP x)) ∧ Drawn0 w w' :=
  Go.Proofs.Ytccpoflhmooanaa.R.bits_IsPower_uint8.calls _ _ w (isP_uint8 x hx)
theorem log_uint8_c (x : Nat) (hx : x < 256) (w : World) : Calls Try.prog 40 #[.int .u8 (x : Int)] w fun e w' => e = .returned (.int .i64 (pLog x)) ∧ Drawn0 w w' :=
  Go.Proofs.Ytccpoflhmooanaa.R.bits_Log_uint8.calls 0 _ _ w (log_uint8 0 x hx)
theorem count_uint8_c (x : Nat) (hx : x < 256) (w : World) : Calls Try.prog 43 #[.int .u8 (x : Int)] w fun e w' => e = .returned (.int .i64 (pPop x)) ∧ Drawn0 w w' :=
  Go.Proofs.Ytccpoflhmooanaa.R.bits_Count_uint8.calls _ _ w (count_uint8 x hx)
theorem ceil_uint8_c (x : Nat) (hx : x < 256) (w : World) : Calls Try.prog 46 #[.int .u8 (x : Int)] w fun e w' => e = .returned (.tuple #[.int .u8 (pCeil (2 ^ 8) x).1, .bool (pCeil (2 ^ 8) x).2]) ∧ Drawn0 w w' :=
  Go.Proofs.Ytccpoflhmooanaa.R.bits_Ceil_uint8.calls 0 _ _ _ w (ceil_uint8 0 x hx)
theorem dn_uint8_c (x a : Nat) (hx : x < 256) (ha : a < 256) (w : World) : Calls Try.prog 54 #[.int .u8 (x : Int), .int .u8 (a : Int)] w fun e w' => e = .returned (.tuple #[.int .u8 (pDn x a).1, .bool (pDn x a).2]) ∧ Drawn0 w w' :=
  Go.Proofs.Ytccpoflhmooanaa.R.bits_Down_uint8.calls _ _ _ _ w (dn_uint8 x a hx ha)
theorem up_uint8_c (x a : Nat) (hx : x < 256) (ha : a < 256) (w : World) : Calls Try.prog 49 #[.int .u8 (x : Int), .int .u8 (a : Int)] w fun e w' => e = .returned (.tuple #[.int .u8 (pUp (2 ^ 8) x a).1, .bool (pUp (2 ^ 8) x a).2]) ∧ Drawn0 w w' :=
  Go.Proofs.Ytccpoflhmooanaa.R.bits_Up_uint8.calls 1 _ _ _ _ w (up_uint8 0 x a hx ha)

theorem isP_uint16_c (x : Nat) (hx : x < 65536) (w : World) : Calls Try.prog 38 #[.int .u16 (x : Int)] w fun e w' => e = .returned (.bool (pIsP x)) ∧ Drawn0 w w' :=
  Go.Proofs.Ytccpoflhmooanaa.R.bits_IsPower_uint16.calls _ _ w (isP_uint16 x hx)
theorem log_uint16_c (x : Nat) (hx : x < 65536) (w : World) : Calls Try.prog 41 #[.int .u16 (x : Int)] w fun e w' => e = .returned (.int .i64 (pLog x)) ∧ Drawn0 w w' :=
  Go.Proofs.Ytccpoflhmooanaa.R.bits_Log_uint16.calls 0 _ _ w (log_uint16 0 x hx)
theorem count_uint16_c (x : Nat) (hx : x < 65536) (w : World) : Calls Try.prog 44 #[.int .u16 (x : Int)] w fun e w' => e = .returned (.int .i64 (pPop x)) ∧ Drawn0 w w' :=
  Go.Proofs.Ytccpoflhmooanaa.R.bits_Count_uint16.calls _ _ w (count_uint16 x hx)
theorem ceil_uint16_c (x : Nat) (hx : x < 65536) (w : World) : Calls Try.prog 72 #[.int .u16 (x : Int)] w fun e w' => e = .returned (.tuple #[.int .u16 (pCeil (2 ^ 16) x).1, .bool (pCeil (2 ^ 16) x).2]) ∧ Drawn0 w w' :=
  Go.Proofs.Ytccpoflhmooanaa.R.bits_Ceil_uint16.calls 0 _ _ _ w (ceil_uint16 0 x hx)
theorem dn_uint16_c (x a : Nat) (hx : x < 65536) (ha : a < 65536) (w : World) : Calls Try.prog 56 #[.int .u16 (x : Int), .int .u16 (a : Int)] w fun e w' => e = .returned (.tuple #[.int .u16 (pDn x a).1, .bool (pDn x a).2]) ∧ Drawn0 w w' :=
  Go.Proofs.Ytccpoflhmooanaa.R.bits_Down_uint16.calls _ _ _ _ w (dn_uint16 x a hx ha)
theorem up_uint16_c (x a : Nat) (hx : x < 65536) (ha : a < 65536) (w : World) : Calls Try.prog 50 #[.int .u16 (x : Int), .int .u16 (a : Int)] w fun e w' => e = .returned (.tuple #[.int .u16 (pUp (2 ^ 16) x a).1, .bool (pUp (2 ^ 16) x a).2]) ∧ Drawn0 w w' :=
  Go.Proofs.Ytccpoflhmooanaa.R.bits_Up_uint16.calls 1 _ _ _ _ w (up_uint16 0 x a hx ha)

theorem isP_uint32_c (x : Nat) (hx : x < 4294967296) (w : World) : Calls Try.prog 39 #[.int .u32 (x : Int)] w fun e w' => e = .returned (.bool (pIsP x)) ∧ Drawn0 w w' :=
  Go.Proofs.Ytccpoflhmooanaa.R.bits_IsPower_uint32.calls _ _ w (isP_uint32 x hx)
theorem log_uint32_c (x : Nat) (hx : x < 4294967296) (w : World) : Calls Try.prog 42 #[.int .u32 (x : Int)] w fun e w' => e = .returned (.int .i64 (pLog x)) ∧ Drawn0 w w' :=
  Go.Proofs.Ytccpoflhmooanaa.R.bits_Log_uint32.calls 0 _ _ w (log_uint32 0 x hx)
theorem count_uint32_c (x : Nat) (hx : x < 4294967296) (w : World) : Calls Try.prog 45 #[.int .u32 (x : Int)] w fun e w' => e = .returned (.int .i64 (pPop x)) ∧ Drawn0 w w' :=
  Go.Proofs.Ytccpoflhmooanaa.R.bits_Count_uint32.calls _ _ w (count_uint32 x hx)
theorem ceil_uint32_c (x : Nat) (hx : x < 4294967296) (w : World) : Calls Try.prog 48 #[.int .u32 (x : Int)] w fun e w' => e = .returned (.tuple #[.int .u32 (pCeil (2 ^ 32) x).1, .bool (pCeil (2 ^ 32) x).2]) ∧ Drawn0 w w' :=
  Go.Proofs.Ytccpoflhmooanaa.R.bits_Ceil_uint32.calls 0 _ _ _ w (ceil_uint32 0 x hx)
theorem dn_uint32_c (x a : Nat) (hx : x < 4294967296) (ha : a < 4294967296) (w : World) : Calls Try.prog 51 #[.int .u32 (x : Int), .int .u32 (a : Int)] w fun e w' => e = .returned (.tuple #[.int .u32 (pDn x a).1, .bool (pDn x a).2]) ∧ Drawn0 w w' :=
  Go.Proofs.Ytccpoflhmooanaa.R.bits_Down_uint32.calls _ _ _ _ w (dn_uint32 x a hx ha)
theorem up_uint32_c (x a : Nat) (hx : x < 4294967296) (ha : a < 4294967296) (w : World) : Calls Try.prog 57 #[.int .u32 (x : Int), .int .u32 (a : Int)] w fun e w' => e = .returned (.tuple #[.int .u32 (pUp (2 ^ 32) x a).1, .bool (pUp (2 ^ 32) x a).2]) ∧ Drawn0 w w' :=
  Go.Proofs.Ytccpoflhmooanaa.R.bits_Up_uint32.calls 1 _ _ _ _ w (up_uint32 0 x a hx ha)

theorem isP_uint64_c (x : Nat) (hx : x < 18446744073709551616) (w : World) : Calls Try.prog 33 #[.int .u64 (x : Int)] w fun e w' => e = .returned (.bool (pIsP x)) ∧ Drawn0 w w' :=
  Go.Proofs.Ytccpoflhmooanaa.R.bits_IsPower_uint64.calls _ _ w (isP_uint64 x hx)
theorem log_uint64_c (x : Nat) (hx : x < 18446744073709551616) (w : World) : Calls Try.prog 36 #[.int .u64 (x : Int)] w fun e w' => e = .returned (.int .i64 (pLog x)) ∧ Drawn0 w w' :=
  Go.Proofs.Ytccpoflhmooanaa.R.bits_Log_uint64.calls 0 _ _ w (log_uint64 0 x hx)
theorem count_uint64_c (x : Nat) (hx : x < 18446744073709551616) (w : World) : Calls Try.prog 35 #[.int .u64 (x : Int)] w fun e w' => e = .returned (.int .i64 (pPop x)) ∧ Drawn0 w w' :=
  Go.Proofs.Ytccpoflhmooanaa.R.bits_Count_uint64.calls _ _ w (count_uint64 x hx)
theorem ceil_uint64_c (x : Nat) (hx : x < 18446744073709551616) (w : World) : Calls Try.prog 34 #[.int .u64 (x : Int)] w fun e w' => e = .returned (.tuple #[.int .u64 (pCeil (2 ^ 64) x).1, .bool (pCeil (2 ^ 64) x).2]) ∧ Drawn0 w w' :=
  Go.Proofs.Ytccpoflhmooanaa.R.bits_Ceil_uint64.calls 0 _ _ _ w (ceil_uint64 0 x hx)
theorem dn_uint64_c (x a : Nat) (hx : x < 18446744073709551616) (ha : a < 18446744073709551616) (w : World) : Calls Try.prog 31 #[.int .u64 (x : Int), .int .u64 (a : Int)] w fun e w' => e = .returned (.tuple #[.int .u64 (pDn x a).1, .bool (pDn x a).2]) ∧ Drawn0 w w' :=
  Go.Proofs.Ytccpoflhmooanaa.R.bits_Down_uint64.calls _ _ _ _ w (dn_uint64 x a hx ha)
theorem up_uint64_c (x a : Nat) (hx : x < 18446744073709551616) (ha : a < 18446744073709551616) (w : World) : Calls Try.prog 32 #[.int .u64 (x : Int), .int .u64 (a : Int)] w fun e w' => e = .returned (.tuple #[.int .u64 (pUp (2 ^ 64) x a).1, .bool (pUp (2 ^ 64) x a).2]) ∧ Drawn0 w w' :=
  Go.Proofs.Ytccpoflhmooanaa.R.bits_Up_uint64.calls 1 _ _ _ _ w (up_uint64 0 x a hx ha)
end Go.Proofs.Ytccpoflhmooanaa.NumC
