/- BitsWidths, walked: what a narrow type holds, the widest one answers alike. -/
import Derived.Test.YtccpoflhmooanaaNumC
import Derived.Test.YtccpoflhmooanaaAwake
namespace Go.Proofs.Ytccpoflhmooanaa.Widths
open Go.RowKit Go.Proofs.YtccpoflhmooanaaW.PrintWords Go.Proofs.YtccpoflhmooanaaW.PrintLast Go.Proofs.YtccpoflhmooanaaW.PrintMore Go.Proofs.Ytccpoflhmooanaa.Nums Go.Proofs.Ytccpoflhmooanaa.NumF Go.Proofs.Ytccpoflhmooanaa.NumC Go.Proofs.Ytccpoflhmooanaa.Mem
set_option linter.unusedVariables false
set_option linter.unusedSimpArgs false

/-- The narrow answer (u, ok) is the wide one's (v, yes), where that fits below most. -/
def Fit (u : Nat) (ok : Bool) (v : Nat) (yes : Bool) (most : Nat) : Prop := if yes = true ∧ v ≤ most then ok = true ∧ u = v else ok = false ∧ u = 0
theorem held_c (u v most : Nat) (M : Int) (hM : M = most) (ok yes : Bool) (h : Fit u ok v yes most) (w : World) :
    Calls Try.prog 47 #[.int .u64 (u : Int), .bool ok, .int .u64 (v : Int), .bool yes, .int .u64 M] w fun e w' => e = .returned (.bool true) ∧ Drawn0 w w' := by
  subst hM
  refine Go.Proofs.Ytccpoflhmooanaa.R.croftlaw1_held.calls _ _ _ _ _ true w ?_
  unfold Go.Proofs.Ytccpoflhmooanaa.R.croftlaw1_held.f
  unfold Fit at h
  cases yes
  · simp only [Bool.false_eq_true, false_and, if_false] at h
    obtain ⟨rfl, rfl⟩ := h
    simp
  · simp only [true_and] at h
    by_cases hv : v ≤ most
    · rw [if_pos hv] at h
      obtain ⟨rfl, rfl⟩ := h
      simp only [if_true]
      rw [if_pos (by omega)]; simp
    · rw [if_neg hv] at h
      obtain ⟨rfl, rfl⟩ := h
      simp only [if_true]
      rw [if_neg (by omega)]; simp

theorem ceil_pair (w s : Nat) (hw : w < 64) (h1 : 1 ≤ w) (hs : s < 2 ^ w) : ∃ c d : Nat, ∃ o y : Bool, pCeil (2 ^ w) s = ((c : Int), o) ∧ pCeil (2 ^ 64) s = ((d : Int), y) ∧ c < 2 ^ w ∧ Fit c o d y (2 ^ w - 1) := by
  have hw1 : 2 ^ 1 ≤ 2 ^ w := Nat.pow_le_pow_right (by omega) h1
  have hw2 : 2 ^ w < 2 ^ 64 := Nat.pow_lt_pow_right (by omega) hw
  unfold pCeil
  by_cases h : s ≤ 1
  · refine ⟨1, 1, true, true, by rw [if_pos h]; rfl, by rw [if_pos h]; rfl, by omega, ?_⟩
    unfold Fit
    rw [if_pos ⟨rfl, by omega⟩]; exact ⟨rfl, rfl⟩
  · have hl := len_le (s - 1) w (by omega) (by omega)
    have hlp : 2 ^ Lib.bitLen (s - 1) ≤ 2 ^ w := Nat.pow_le_pow_right (by omega) hl
    have hp0 : 0 < 2 ^ Lib.bitLen (s - 1) := Nat.pow_pos (by omega)
    generalize 2 ^ Lib.bitLen (s - 1) = P at *
    by_cases h3 : P < 2 ^ w
    · refine ⟨P, P, true, true, by rw [if_neg h, if_pos h3], by rw [if_neg h, if_pos (by omega)], h3, ?_⟩
      unfold Fit
      rw [if_pos ⟨rfl, by omega⟩]; exact ⟨rfl, rfl⟩
    · refine ⟨0, P, false, true, by rw [if_neg h, if_neg h3]; rfl, by rw [if_neg h, if_pos (by omega)], by omega, ?_⟩
      unfold Fit
      rw [if_neg (by omega)]; exact ⟨rfl, rfl⟩
theorem up_pair (w s a : Nat) (hw : w < 63) (hs : s < 2 ^ w) (ha : a < 2 ^ w) : ∃ c d : Nat, ∃ o y : Bool, pUp (2 ^ w) s a = ((c : Int), o) ∧ pUp (2 ^ 64) s a = ((d : Int), y) ∧ c < 2 ^ w ∧ Fit c o d y (2 ^ w - 1) := by
  have hw2 : 2 ^ (w + 1) < 2 ^ 64 := Nat.pow_lt_pow_right (by omega) (by omega)
  rw [Nat.pow_succ] at hw2
  unfold pUp
  by_cases h : IsP a
  · have l0 : s / a * a ≤ s := Nat.div_mul_le_self _ _
    generalize s / a * a = y at *
    rw [if_pos h, if_pos h]
    by_cases e : y = s
    · refine ⟨s, s, true, true, by rw [if_pos e], by rw [if_pos e], hs, ?_⟩
      unfold Fit
      rw [if_pos ⟨rfl, by omega⟩]; exact ⟨rfl, rfl⟩
    · by_cases h3 : 2 ^ w ≤ y + a
      · refine ⟨0, y + a, false, true, by rw [if_neg e, if_pos h3]; rfl, by rw [if_neg e, if_neg (by omega)], by omega, ?_⟩
        unfold Fit
        rw [if_neg (by omega)]; exact ⟨rfl, rfl⟩
      · refine ⟨y + a, y + a, true, true, by rw [if_neg e, if_neg h3], by rw [if_neg e, if_neg (by omega)], by omega, ?_⟩
        unfold Fit
        rw [if_pos ⟨rfl, by omega⟩]; exact ⟨rfl, rfl⟩
  · refine ⟨0, 0, false, false, by rw [if_neg h]; rfl, by rw [if_neg h]; rfl, by omega, ?_⟩
    unfold Fit
    simp
theorem dn_pair (w s a : Nat) (hs : s < 2 ^ w) : ∃ c : Nat, ∃ o : Bool, pDn s a = ((c : Int), o) ∧ c < 2 ^ w ∧ Fit c o c o (2 ^ w - 1) := by
  unfold pDn
  by_cases h : IsP a
  · have l0 : s / a * a ≤ s := Nat.div_mul_le_self _ _
    refine ⟨s / a * a, true, by rw [if_pos h], by omega, ?_⟩
    unfold Fit
    rw [if_pos ⟨rfl, by omega⟩]; exact ⟨rfl, rfl⟩
  · refine ⟨0, false, by rw [if_neg h]; rfl, by omega, ?_⟩
    unfold Fit
    simp

set_option maxHeartbeats 4000000 in
set_option maxRecDepth 100000 in
theorem widths_core (x a s m l sa ma la : Nat) (hs : s < 256) (hm : m < 65536) (hl : l < 4294967296) (hsa : sa < 256) (hma : ma < 65536) (hla : la < 4294967296)
    (e1 : IntKind.u8.wrap (x : Int) = s) (e2 : IntKind.u16.wrap (x : Int) = m) (e3 : IntKind.u32.wrap (x : Int) = l) (e4 : IntKind.u8.wrap (a : Int) = sa) (e5 : IntKind.u16.wrap (a : Int) = ma) (e6 : IntKind.u32.wrap (a : Int) = la)
    (e1' : (x : Int) % 256 = s) (e2' : (x : Int) % 65536 = m) (e3' : (x : Int) % 4294967296 = l) (e4' : (a : Int) % 256 = sa) (e5' : (a : Int) % 65536 = ma) (e6' : (a : Int) % 4294967296 = la)
    (g1 : IntKind.u64.wrap (s : Int) = s) (g2 : IntKind.u64.wrap (m : Int) = m) (g3 : IntKind.u64.wrap (l : Int) = l) (g4 : IntKind.u64.wrap (sa : Int) = sa) (g5 : IntKind.u64.wrap (ma : Int) = ma) (g6 : IntKind.u64.wrap (la : Int) = la) (w : World) :
    Calls Try.prog 9 #[.int .u64 (x : Int), .int .u64 (a : Int)] w fun e w' => e = .returned (.bool true) ∧ Below w.heap.size w w' := by
  have A1 := Lib.hid (isP_uint8_c s hs)
  have A2 := Lib.hid (isP_uint64_c s (by omega))
  have A3 := Lib.hid (isP_uint16_c m hm)
  have A4 := Lib.hid (isP_uint64_c m (by omega))
  have A5 := Lib.hid (isP_uint32_c l hl)
  have A6 := Lib.hid (isP_uint64_c l (by omega))
  have B1 := Lib.hid (log_uint8_c s hs)
  have B2 := Lib.hid (log_uint64_c s (by omega))
  have B3 := Lib.hid (log_uint16_c m hm)
  have B4 := Lib.hid (log_uint64_c m (by omega))
  have B5 := Lib.hid (log_uint32_c l hl)
  have B6 := Lib.hid (log_uint64_c l (by omega))
  have C1 := Lib.hid (count_uint8_c s hs)
  have C2 := Lib.hid (count_uint64_c s (by omega))
  have C3 := Lib.hid (count_uint16_c m hm)
  have C4 := Lib.hid (count_uint64_c m (by omega))
  have C5 := Lib.hid (count_uint32_c l hl)
  have C6 := Lib.hid (count_uint64_c l (by omega))
  obtain ⟨c1, c2, o1, o2, p1, p2, p3, p4⟩ := ceil_pair 8 s (by omega) (by omega) hs
  have d1 := ceil_uint8_c s hs
  rw [p1] at d1
  have D1 := Lib.hid d1
  have d2 := ceil_uint64_c s (by omega)
  rw [p2] at d2
  have D2 := Lib.hid d2
  have D3 := Lib.hid (held_c c1 c2 255 255 rfl o1 o2 p4)
  have q1 : IntKind.u64.wrap (c1 : Int) = c1 := wrapu_nat (by omega)
  clear d1 d2 p1 p2 p3 p4
  obtain ⟨c3, c4, o3, o4, p1, p2, p3, p4⟩ := ceil_pair 32 l (by omega) (by omega) hl
  have d1 := ceil_uint32_c l hl
  rw [p1] at d1
  have D4 := Lib.hid d1
  have d2 := ceil_uint64_c l (by omega)
  rw [p2] at d2
  have D5 := Lib.hid d2
  have D6 := Lib.hid (held_c c3 c4 4294967295 4294967295 rfl o3 o4 p4)
  have q2 : IntKind.u64.wrap (c3 : Int) = c3 := wrapu_nat (by omega)
  clear d1 d2 p1 p2 p3 p4
  obtain ⟨c5, c6, o5, o6, p1, p2, p3, p4⟩ := up_pair 8 s sa (by omega) hs hsa
  have d1 := up_uint8_c s sa hs hsa
  rw [p1] at d1
  have E1 := Lib.hid d1
  have d2 := up_uint64_c s sa (by omega) (by omega)
  rw [p2] at d2
  have E2 := Lib.hid d2
  have E3 := Lib.hid (held_c c5 c6 255 255 rfl o5 o6 p4)
  have q3 : IntKind.u64.wrap (c5 : Int) = c5 := wrapu_nat (by omega)
  clear d1 d2 p1 p2 p3 p4
  obtain ⟨c7, c8, o7, o8, p1, p2, p3, p4⟩ := up_pair 16 m ma (by omega) hm hma
  have d1 := up_uint16_c m ma hm hma
  rw [p1] at d1
  have E4 := Lib.hid d1
  have d2 := up_uint64_c m ma (by omega) (by omega)
  rw [p2] at d2
  have E5 := Lib.hid d2
  have E6 := Lib.hid (held_c c7 c8 65535 65535 rfl o7 o8 p4)
  have q4 : IntKind.u64.wrap (c7 : Int) = c7 := wrapu_nat (by omega)
  clear d1 d2 p1 p2 p3 p4
  obtain ⟨c9, o9, p1, p3, p4⟩ := dn_pair 32 l la hl
  have d1 := dn_uint32_c l la hl hla
  rw [p1] at d1
  have F1 := Lib.hid d1
  have d2 := dn_uint64_c l la (by omega) (by omega)
  rw [p1] at d2
  have F2 := Lib.hid d2
  have F3 := Lib.hid (held_c c9 c9 4294967295 4294967295 rfl o9 o9 p4)
  have q5 : IntKind.u64.wrap (c9 : Int) = c9 := wrapu_nat (by omega)
  clear d1 d2 p1 p3 p4 hs hm hl hsa hma hla
  go_enter Try.func9, Try.ntmps9
  go_wp2_with (first
    | (go_at_call 16; refine (Sets.awake_calls _).mono ?_; rintro e w1 ⟨rfl, hb⟩)
    | (go_at_call 37; (with_reducible refine (A1.out _).mono ?_); rintro e w2 ⟨rfl, ⟨n2, rfl⟩⟩)
    | (go_at_call 33; (with_reducible refine (A2.out _).mono ?_); rintro e w2 ⟨rfl, ⟨n2, rfl⟩⟩)
    | (go_at_call 38; (with_reducible refine (A3.out _).mono ?_); rintro e w2 ⟨rfl, ⟨n2, rfl⟩⟩)
    | (go_at_call 33; (with_reducible refine (A4.out _).mono ?_); rintro e w2 ⟨rfl, ⟨n2, rfl⟩⟩)
    | (go_at_call 39; (with_reducible refine (A5.out _).mono ?_); rintro e w2 ⟨rfl, ⟨n2, rfl⟩⟩)
    | (go_at_call 33; (with_reducible refine (A6.out _).mono ?_); rintro e w2 ⟨rfl, ⟨n2, rfl⟩⟩)
    | (go_at_call 40; (with_reducible refine (B1.out _).mono ?_); rintro e w2 ⟨rfl, ⟨n2, rfl⟩⟩)
    | (go_at_call 36; (with_reducible refine (B2.out _).mono ?_); rintro e w2 ⟨rfl, ⟨n2, rfl⟩⟩)
    | (go_at_call 41; (with_reducible refine (B3.out _).mono ?_); rintro e w2 ⟨rfl, ⟨n2, rfl⟩⟩)
    | (go_at_call 36; (with_reducible refine (B4.out _).mono ?_); rintro e w2 ⟨rfl, ⟨n2, rfl⟩⟩)
    | (go_at_call 42; (with_reducible refine (B5.out _).mono ?_); rintro e w2 ⟨rfl, ⟨n2, rfl⟩⟩)
    | (go_at_call 36; (with_reducible refine (B6.out _).mono ?_); rintro e w2 ⟨rfl, ⟨n2, rfl⟩⟩)
    | (go_at_call 43; (with_reducible refine (C1.out _).mono ?_); rintro e w2 ⟨rfl, ⟨n2, rfl⟩⟩)
    | (go_at_call 35; (with_reducible refine (C2.out _).mono ?_); rintro e w2 ⟨rfl, ⟨n2, rfl⟩⟩)
    | (go_at_call 44; (with_reducible refine (C3.out _).mono ?_); rintro e w2 ⟨rfl, ⟨n2, rfl⟩⟩)
    | (go_at_call 35; (with_reducible refine (C4.out _).mono ?_); rintro e w2 ⟨rfl, ⟨n2, rfl⟩⟩)
    | (go_at_call 45; (with_reducible refine (C5.out _).mono ?_); rintro e w2 ⟨rfl, ⟨n2, rfl⟩⟩)
    | (go_at_call 35; (with_reducible refine (C6.out _).mono ?_); rintro e w2 ⟨rfl, ⟨n2, rfl⟩⟩)
    | (go_at_call 46; (with_reducible refine (D1.out _).mono ?_); rintro e w2 ⟨rfl, ⟨n2, rfl⟩⟩)
    | (go_at_call 34; (with_reducible refine (D2.out _).mono ?_); rintro e w2 ⟨rfl, ⟨n2, rfl⟩⟩)
    | (go_at_call 47; (with_reducible refine (D3.out _).mono ?_); rintro e w2 ⟨rfl, ⟨n2, rfl⟩⟩)
    | (go_at_call 48; (with_reducible refine (D4.out _).mono ?_); rintro e w2 ⟨rfl, ⟨n2, rfl⟩⟩)
    | (go_at_call 34; (with_reducible refine (D5.out _).mono ?_); rintro e w2 ⟨rfl, ⟨n2, rfl⟩⟩)
    | (go_at_call 47; (with_reducible refine (D6.out _).mono ?_); rintro e w2 ⟨rfl, ⟨n2, rfl⟩⟩)
    | (go_at_call 49; (with_reducible refine (E1.out _).mono ?_); rintro e w2 ⟨rfl, ⟨n2, rfl⟩⟩)
    | (go_at_call 32; (with_reducible refine (E2.out _).mono ?_); rintro e w2 ⟨rfl, ⟨n2, rfl⟩⟩)
    | (go_at_call 47; (with_reducible refine (E3.out _).mono ?_); rintro e w2 ⟨rfl, ⟨n2, rfl⟩⟩)
    | (go_at_call 50; (with_reducible refine (E4.out _).mono ?_); rintro e w2 ⟨rfl, ⟨n2, rfl⟩⟩)
    | (go_at_call 32; (with_reducible refine (E5.out _).mono ?_); rintro e w2 ⟨rfl, ⟨n2, rfl⟩⟩)
    | (go_at_call 47; (with_reducible refine (E6.out _).mono ?_); rintro e w2 ⟨rfl, ⟨n2, rfl⟩⟩)
    | (go_at_call 51; (with_reducible refine (F1.out _).mono ?_); rintro e w2 ⟨rfl, ⟨n2, rfl⟩⟩)
    | (go_at_call 31; (with_reducible refine (F2.out _).mono ?_); rintro e w2 ⟨rfl, ⟨n2, rfl⟩⟩)
    | (go_at_call 47; (with_reducible refine (F3.out _).mono ?_); rintro e w2 ⟨rfl, ⟨n2, rfl⟩⟩))
  go_ret
  exact ⟨rfl, by repeat (first | exact hb | apply pw_below_drewN)⟩
theorem widths_calls (x a : Nat) (w : World) :
    Calls Try.prog 9 #[.int .u64 (x : Int), .int .u64 (a : Int)] w fun e w' => e = .returned (.bool true) ∧ Below w.heap.size w w' := by
  have k : ∀ y : Nat, IntKind.u8.wrap (y : Int) = ((y % 256 : Nat) : Int) ∧ IntKind.u16.wrap (y : Int) = ((y % 65536 : Nat) : Int) ∧ IntKind.u32.wrap (y : Int) = ((y % 4294967296 : Nat) : Int) := fun y => by
    rw [IntKind.wrap_u8, IntKind.wrap_u16, IntKind.wrap_u32]; exact ⟨rfl, rfl, rfl⟩
  exact widths_core x a (x % 256) (x % 65536) (x % 4294967296) (a % 256) (a % 65536) (a % 4294967296) (by omega) (by omega) (by omega) (by omega) (by omega) (by omega)
    (k x).1 (k x).2.1 (k x).2.2 (k a).1 (k a).2.1 (k a).2.2 rfl rfl rfl rfl rfl rfl (wrapu_nat (by omega)) (wrapu_nat (by omega)) (wrapu_nat (by omega)) (wrapu_nat (by omega)) (wrapu_nat (by omega)) (wrapu_nat (by omega)) w
end Go.Proofs.Ytccpoflhmooanaa.Widths
