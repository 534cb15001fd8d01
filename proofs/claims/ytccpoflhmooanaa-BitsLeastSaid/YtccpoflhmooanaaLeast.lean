/- BitsLeast, walked: the law answers true at every number. -/
import Derived.Test.YtccpoflhmooanaaNumC
import Derived.Test.YtccpoflhmooanaaAwake
import Derived.Deep.QuietTactic
import Derived.BigQuiet
namespace Go.Proofs.Ytccpoflhmooanaa.Least
open Go.RowKit Go.Proofs.YtccpoflhmooanaaW.PrintWords Go.Proofs.YtccpoflhmooanaaW.PrintLast Go.Proofs.YtccpoflhmooanaaW.PrintMore Go.Proofs.Ytccpoflhmooanaa.Nums Go.Proofs.Ytccpoflhmooanaa.NumF Go.Proofs.Ytccpoflhmooanaa.NumC Go.Proofs.Ytccpoflhmooanaa.Mem
set_option linter.unusedVariables false
set_option linter.unusedSimpArgs false

theorem drawn_upd {w w' : World} (h : Drawn0 w w') : Upd No w w' := by
  obtain ⟨n, rfl⟩ := h
  exact (Upd.refl _ _).drewN n

/-- Above 2^63 there is no power. -/
theorem none_above (x : Nat) (hx : x < 18446744073709551616) (h : 9223372036854775808 < x) : pCeil (2 ^ 64) x = (0, false) := by
  unfold pCeil
  rw [if_neg (by omega), if_neg]
  have : ¬ Lib.bitLen (x - 1) ≤ 63 := fun hl => by
    have := (ceil_len x hx (by omega) 63).2 hl
    omega
  have h2 : 2 ^ 64 ≤ 2 ^ Lib.bitLen (x - 1) := Nat.pow_le_pow_right (by omega) (by omega)
  omega
theorem some_below (x : Nat) (hx : x ≤ 9223372036854775808) : ∃ c : Nat, pCeil (2 ^ 64) x = ((c : Int), true) ∧ IsP c ∧ c < 18446744073709551616 ∧ x ≤ c ∧ (1 < c → c / 2 < x) ∧ (x = 0 → c = 1) := by
  unfold pCeil
  by_cases h : x ≤ 1
  · exact ⟨1, by rw [if_pos h]; rfl, ⟨0, rfl⟩, by omega, h, by omega, fun _ => rfl⟩
  · rw [if_neg h]
    have hl : Lib.bitLen (x - 1) ≤ 63 := (ceil_len x (by omega) (by omega) 63).1 (by omega)
    have hp : 2 ^ Lib.bitLen (x - 1) < 2 ^ 64 := Nat.pow_lt_pow_right (by omega) (by omega)
    rw [if_pos hp]
    refine ⟨_, rfl, ⟨_, rfl⟩, hp, (ceil_len x (by omega) (by omega) _).2 (Nat.le_refl _), fun hc => ?_, by omega⟩
    obtain ⟨a, b, c⟩ := len_bounds (x - 1) (by omega) (by omega)
    have e : 2 ^ Lib.bitLen (x - 1) = 2 ^ (Lib.bitLen (x - 1) - 1) * 2 := by rw [← Nat.pow_succ]; congr 1; omega
    omega
theorem log_facts (x : Nat) (hx : x < 18446744073709551616) (h : x ≠ 0) : ∃ n : Nat, pLog x = (n : Int) ∧ n < 64 ∧ 2 ^ n ≤ x ∧ x < 2 ^ n + 2 ^ n := by
  obtain ⟨a, b, c⟩ := len_bounds x hx h
  have := lenb x hx
  refine ⟨Lib.bitLen x - 1, by unfold pLog; omega, by omega, b, ?_⟩
  have e : 2 ^ Lib.bitLen x = 2 ^ (Lib.bitLen x - 1) * 2 := by rw [← Nat.pow_succ]; congr 1; omega
  omega
theorem isP_between (x c : Nat) (hc : IsP c) (h1 : x ≤ c) (h2 : 1 < c → c / 2 < x) (h0 : x ≠ 0) : pIsP x = decide (c = x) := by
  unfold pIsP
  rw [decide_eq_decide]
  constructor
  · rintro ⟨n, rfl⟩
    obtain ⟨m, rfl⟩ := hc
    have a := (Nat.pow_le_pow_iff_right (by omega : 1 < 2)).1 h1
    by_cases e : n = m
    · rw [e]
    · have : 2 ^ m = 2 ^ (m - 1) * 2 := by rw [← Nat.pow_succ]; congr 1; omega
      have h3 : 2 ^ n ≤ 2 ^ (m - 1) := Nat.pow_le_pow_right (by omega) (by omega)
      have h4 : 0 < 2 ^ (m - 1) := Nat.pow_pos (by omega)
      have := h2 (by omega)
      omega
  · rintro rfl; exact hc
theorem pow_is (c : Nat) (h : IsP c) : pIsP c = true := decide_eq_true h
theorem pop_is (x : Nat) (hx : x < 18446744073709551616) : (pPop x == 1) = pIsP x := by
  rw [Bool.eq_iff_iff, beq_iff_eq, pop_iff x hx]
  unfold pIsP
  rw [decide_eq_true_eq]

theorem least_none (x : Nat) (hx : x < 18446744073709551616) (h : 9223372036854775808 < x) (w : World) :
    Calls Try.prog 8 #[.int .u64 (x : Int)] w fun e w' => e = .returned (.bool true) ∧ Below w.heap.size w w' := by
  have hc := ceil_uint64_c x hx
  rw [none_above x hx h] at hc
  have HC := Lib.hid hc
  have h1 : (9223372036854775808 : Int) < x := by omega
  clear hc h hx
  go_enter Try.func8, Try.ntmps8
  go_wp2_with (first
    | (go_at_call 16; refine (Sets.awake_calls _).mono ?_; rintro e w1 ⟨rfl, hb⟩)
    | (go_at_call 34; refine (HC.out _).mono ?_; rintro e w2 ⟨rfl, ⟨n1, rfl⟩⟩))
  go_ret
  exact ⟨by simp [h1], pw_below_drewN hb n1⟩
theorem least_zero (w : World) : Calls Try.prog 8 #[.int .u64 0] w fun e w' => e = .returned (.bool true) ∧ Below w.heap.size w w' := by
  have hc := ceil_uint64_c 0 (by omega)
  rw [show pCeil (2 ^ 64) 0 = (1, true) from rfl] at hc
  have HC := Lib.hid hc
  have h1 := isP_uint64_c 1 (by omega)
  rw [pow_is 1 ⟨0, rfl⟩] at h1
  have H1 := Lib.hid h1
  have h2 := count_uint64_c 1 (by omega)
  rw [show pPop 1 = 1 by decide] at h2
  have H2 := Lib.hid h2
  have h3 := log_uint64_c 0 (by omega)
  rw [show pLog 0 = -1 by decide] at h3
  have H3 := Lib.hid h3
  clear hc h1 h2 h3
  go_enter Try.func8, Try.ntmps8
  go_wp2_with (first
    | (go_at_call 16; refine (Sets.awake_calls _).mono ?_; rintro e w1 ⟨rfl, hb⟩)
    | (go_at_call 34; refine (HC.out _).mono ?_; rintro e w2 ⟨rfl, ⟨n1, rfl⟩⟩)
    | (go_at_call 33; refine (H1.out _).mono ?_; rintro e w2 ⟨rfl, ⟨n2, rfl⟩⟩)
    | (go_at_call 35; refine (H2.out _).mono ?_; rintro e w2 ⟨rfl, ⟨n3, rfl⟩⟩)
    | (go_at_call 36; refine (H3.out _).mono ?_; rintro e w2 ⟨rfl, ⟨n4, rfl⟩⟩))
  go_ret
  exact ⟨rfl, by repeat (first | exact hb | apply pw_below_drewN)⟩

set_option maxHeartbeats 2000000 in
set_option maxRecDepth 100000 in
theorem least_some (x c n P : Nat) (hx : x < 18446744073709551616) (hc64 : c < 18446744073709551616) (h0 : x ≠ 0) (hC : pCeil (2 ^ 64) x = ((c : Int), true)) (hcp : pIsP c = true) (hcx : x ≤ c) (hch : 1 < c → c / 2 < x)
    (hn : pLog x = (n : Int)) (hn64 : n < 64) (hP : P = 2 ^ n) (hP1 : P ≤ x) (hP2 : x < P + P) (hxc : pIsP x = decide (c = x)) (w : World) :
    Calls Try.prog 8 #[.int .u64 (x : Int)] w fun e w' => e = .returned (.bool true) ∧ Below w.heap.size w w' := by
  have hc := ceil_uint64_c x hx
  rw [hC] at hc
  have HC := Lib.hid hc
  have h1 := isP_uint64_c c hc64
  rw [hcp] at h1
  have H1 := Lib.hid h1
  have h2 := count_uint64_c c hc64
  rw [show pPop c = 1 from by have := pop_is c hc64; rw [hcp, beq_iff_eq] at this; exact this] at h2
  have H2 := Lib.hid h2
  have h3 := log_uint64_c x hx
  rw [hn] at h3
  have H3 := Lib.hid h3
  have e4 : pIsP x = ((c : Int) == (x : Int)) := by rw [hxc, Bool.eq_iff_iff, decide_eq_true_eq, beq_iff_eq]; omega
  have h4 := isP_uint64_c x hx
  rw [e4] at h4
  have H4 := Lib.hid h4
  have h5 := count_uint64_c x hx
  have H5 := Lib.hid h5
  have f1 : ((x : Int) == 0) = false := by rw [beq_eq_false_iff_ne]; omega
  have f2 : decide (c < x) = false := by rw [decide_eq_false_iff_not]; omega
  have cw : IntKind.u64.wrap ((c : Int) / 2) = (c : Int) / 2 := by rw [wrapu]; omega
  have g1 : IntKind.u64.wrap (2 ^ n) = (P : Int) := by
    have e : ((2 : Int) ^ n) = ((2 ^ n : Nat) : Int) := by simp
    rw [e, ← hP]; exact wrapu_nat (by omega)
  have g2 : IntKind.u64.wrap ((x : Int) - P) = (x : Int) - P := by rw [wrapu]; omega
  have f3 : decide ((n : Int) < 0) = false := by rw [decide_eq_false_iff_not]; omega
  have f4 : decide (63 < (n : Int)) = false := by rw [decide_eq_false_iff_not]; omega
  have f5 : decide (x < P) = false := by rw [decide_eq_false_iff_not]; omega
  have f6 : decide ((P : Int) ≤ x - P) = false := by rw [decide_eq_false_iff_not]; omega
  have f8 : ((pPop x == 1) == ((c : Int) == (x : Int))) = true := by rw [pop_is x hx, e4]; exact beq_self_eq_true _
  have F8 := Lib.hid f8
  clear f8
  by_cases h : 1 < c
  · have k1 : decide (1 < (c : Int)) = true := by rw [decide_eq_true_eq]; omega
    have k2 : decide ((x : Int) ≤ (c : Int) / 2) = false := by rw [decide_eq_false_iff_not]; omega
    clear hc h1 h2 h3 h4 h5 hC hcp hn hP hxc hx hc64 e4 hch
    go_enter Try.func8, Try.ntmps8
    go_wp2_with (first
      | (go_at_call 16; refine (Sets.awake_calls _).mono ?_; rintro e w1 ⟨rfl, hb⟩)
      | (go_at_call 34; refine (HC.out _).mono ?_; rintro e w2 ⟨rfl, ⟨n1, rfl⟩⟩)
      | (go_at_call 33; (with_reducible refine (H1.out _).mono ?_); rintro e w2 ⟨rfl, ⟨n2, rfl⟩⟩)
      | (go_at_call 35; (with_reducible refine (H2.out _).mono ?_); rintro e w2 ⟨rfl, ⟨n3, rfl⟩⟩)
      | (go_at_call 36; (with_reducible refine (H3.out _).mono ?_); rintro e w2 ⟨rfl, ⟨n4, rfl⟩⟩))
    go_quiet (fail)
    go_wp2_with (first
      | (go_at_call 33; (with_reducible refine (H4.out _).mono ?_); rintro e w2 ⟨rfl, ⟨n2, rfl⟩⟩)
      | (go_at_call 35; (with_reducible refine (H5.out _).mono ?_); rintro e w2 ⟨rfl, ⟨n3, rfl⟩⟩))
    go_ret
    exact ⟨Sets.ret_bool F8.out, by repeat (first | exact hb | apply pw_below_drewN)⟩
  · have k1 : decide (1 < (c : Int)) = false := by rw [decide_eq_false_iff_not]; omega
    clear hc h1 h2 h3 h4 h5 hC hcp hn hP hxc hx hc64 e4 hch cw
    go_enter Try.func8, Try.ntmps8
    go_wp2_with (first
      | (go_at_call 16; refine (Sets.awake_calls _).mono ?_; rintro e w1 ⟨rfl, hb⟩)
      | (go_at_call 34; refine (HC.out _).mono ?_; rintro e w2 ⟨rfl, ⟨n1, rfl⟩⟩)
      | (go_at_call 33; (with_reducible refine (H1.out _).mono ?_); rintro e w2 ⟨rfl, ⟨n2, rfl⟩⟩)
      | (go_at_call 35; (with_reducible refine (H2.out _).mono ?_); rintro e w2 ⟨rfl, ⟨n3, rfl⟩⟩)
      | (go_at_call 36; (with_reducible refine (H3.out _).mono ?_); rintro e w2 ⟨rfl, ⟨n4, rfl⟩⟩))
    go_quiet (fail)
    go_wp2_with (first
      | (go_at_call 33; (with_reducible refine (H4.out _).mono ?_); rintro e w2 ⟨rfl, ⟨n2, rfl⟩⟩)
      | (go_at_call 35; (with_reducible refine (H5.out _).mono ?_); rintro e w2 ⟨rfl, ⟨n3, rfl⟩⟩))
    go_ret
    exact ⟨Sets.ret_bool F8.out, by repeat (first | exact hb | apply pw_below_drewN)⟩
theorem least_calls (x : Nat) (hx : x < 18446744073709551616) (w : World) :
    Calls Try.prog 8 #[.int .u64 (x : Int)] w fun e w' => e = .returned (.bool true) ∧ Below w.heap.size w w' := by
  by_cases h : 9223372036854775808 < x
  · exact least_none x hx h w
  · obtain ⟨c, hC, hcp, hc64, hcx, hch, hz⟩ := some_below x (by omega)
    by_cases h0 : x = 0
    · subst h0; exact least_zero w
    · obtain ⟨n, hn, hn64, hP1, hP2⟩ := log_facts x hx h0
      exact least_some x c n (2 ^ n) hx hc64 h0 hC (pow_is c hcp) hcx hch hn hn64 rfl hP1 hP2 (isP_between x c hcp hcx hch h0) w
end Go.Proofs.Ytccpoflhmooanaa.Least
