-- PRINTED BY print.sh 35421559b90ae4d0a3588c463048766b98c2df88dd9212a6774a882060cdf62d: not written by this session
import Derived.Test.YtccpoflhmooanaaPBitsMultiplesx0
import Derived.Test.YtccpoflhmooanaaPBitsMultiplesx1
import Derived.Test.YtccpoflhmooanaaPBitsMultiplesx2
namespace Go.Proofs.Ytccpoflhmooanaa.PBitsMultiples
open Go.RowKit Go.Proofs.YtccpoflhmooanaaW.PrintWords Go.Proofs.YtccpoflhmooanaaW.PrintLast Go.Proofs.YtccpoflhmooanaaW.PrintMore
attribute [local go_sem] max2_int min2_int max_two min_two max_three min_three max_four min_four   -- for this text's walks alone
set_option linter.unusedVariables false
set_option linter.unusedSimpArgs false

/-! ### croftlaw1_multiples_uint64: function 13 -/
def croftlaw1_multiples_uint64.j0 : Nat → Int → Int → Int → Int → Int → Bool → Option (Bool)
  | 0, _, _, _, _, _, _ => none
  | k + 1, x0, x1, x2, x7, x8, x39 => if x39 = true then (some false) else ((bits_Down_uint64.f x0 x1).bind fun bt154 => ((croftref1_Down.f k x7 x8 x2).bind fun bt156 => (if bt154.1 = bt156.1 then (some (bt154.2 == bt156.2)) else (some false))))
def croftlaw1_multiples_uint64.f (k : Nat) (a0 : Int) (a1 : Int) (a2 : Int) : Option (Bool) := (croftref1_Cut.f a0 a2).bind fun t148 => ((croftref1_Cut.f a1 a2).bind fun t149 => ((bits_Up_uint64.f k a0 a1).bind fun bt150 => ((croftref1_Up.f k t148 t149 a2).bind fun bt152 => (if bt150.1 = bt152.1 then (croftlaw1_multiples_uint64.j0 k a0 a1 a2 t148 t149 (bt150.2 != bt152.2)) else (croftlaw1_multiples_uint64.j0 k a0 a1 a2 t148 t149 true)))))
theorem croftlaw1_multiples_uint64.mono_l : ∀ k, (∀ y0 y1 y2 y3 y4 y5, LeO (croftlaw1_multiples_uint64.j0 k y0 y1 y2 y3 y4 y5) (croftlaw1_multiples_uint64.j0 (k + 1) y0 y1 y2 y3 y4 y5))
  | 0 => fun _ _ _ _ _ _ r h => by simp [croftlaw1_multiples_uint64.j0] at h
  | k + 1 => by
    have ih0 := croftlaw1_multiples_uint64.mono_l k
    · intro y0 y1 y2 y3 y4 y5
      unfold croftlaw1_multiples_uint64.j0
      repeat' first
      | (with_reducible exact ih0 _ _ _ _ _ _)
      | (with_reducible exact bits_Up_uint64.mono _ _ _)
      | (with_reducible exact croftref1_Down.mono _ _ _ _)
      | (with_reducible exact croftref1_Up.mono _ _ _ _)
      | (with_reducible exact LeO.refl _)
      | (with_reducible exact LeO.none _)
      | (with_reducible refine LeO.ite ?_ ?_)
      | (with_reducible refine LeO.bind ?_ (fun _ => ?_))
      | exact ih0 _ _ _ _ _ _
      | exact bits_Up_uint64.mono _ _ _
      | exact croftref1_Down.mono _ _ _ _
      | exact croftref1_Up.mono _ _ _ _
      | exact LeO.none _
      | refine LeO.ite ?_ ?_
      | refine LeO.bind ?_ (fun _ => ?_)
theorem croftlaw1_multiples_uint64.mono : ∀ a0 a1 a2 k, LeO (croftlaw1_multiples_uint64.f k a0 a1 a2) (croftlaw1_multiples_uint64.f (k + 1) a0 a1 a2) := by
  intro a0 a1 a2 k
  have ih0 := croftlaw1_multiples_uint64.mono_l k
  unfold croftlaw1_multiples_uint64.f
  repeat' first
      | (with_reducible exact ih0 _ _ _ _ _ _)
      | (with_reducible exact bits_Up_uint64.mono _ _ _)
      | (with_reducible exact croftref1_Down.mono _ _ _ _)
      | (with_reducible exact croftref1_Up.mono _ _ _ _)
      | (with_reducible exact LeO.refl _)
      | (with_reducible exact LeO.none _)
      | (with_reducible refine LeO.ite ?_ ?_)
      | (with_reducible refine LeO.bind ?_ (fun _ => ?_))
      | exact ih0 _ _ _ _ _ _
      | exact bits_Up_uint64.mono _ _ _
      | exact croftref1_Down.mono _ _ _ _
      | exact croftref1_Up.mono _ _ _ _
      | exact LeO.none _
      | refine LeO.ite ?_ ?_
      | refine LeO.bind ?_ (fun _ => ?_)
set_option maxHeartbeats 8000000 in
set_option maxRecDepth 100000 in
theorem croftlaw1_multiples_uint64.calls (k : Nat) (a0 : Int) (a1 : Int) (a2 : Int) (r : Bool) (w : World) (h : croftlaw1_multiples_uint64.f k a0 a1 a2 = some r) :
    Calls Try.prog 13 #[.int .u64 a0, .int .u64 a1, .int .i64 a2] w fun e w' => e = .returned (.bool r) ∧ Drawn0 w w' := by
  have H : ((croftref1_Cut.f a0 a2).bind fun t148 => ((croftref1_Cut.f a1 a2).bind fun t149 => ((bits_Up_uint64.f k a0 a1).bind fun bt150 => ((croftref1_Up.f k t148 t149 a2).bind fun bt152 => (if bt150.1 = bt152.1 then (croftlaw1_multiples_uint64.j0 k a0 a1 a2 t148 t149 (bt150.2 != bt152.2)) else (croftlaw1_multiples_uint64.j0 k a0 a1 a2 t148 t149 true)))))) = some r := h
  clear h
  replace H := Option.bind_eq_some_iff.mp H
  obtain ⟨t148, A40, H⟩ := H
  replace H : ((croftref1_Cut.f a1 a2).bind fun t149 => ((bits_Up_uint64.f k a0 a1).bind fun bt150 => ((croftref1_Up.f k t148 t149 a2).bind fun bt152 => (if bt150.1 = bt152.1 then (croftlaw1_multiples_uint64.j0 k a0 a1 a2 t148 t149 (bt150.2 != bt152.2)) else (croftlaw1_multiples_uint64.j0 k a0 a1 a2 t148 t149 true))))) = some r := H
  have A4 := Aside0.mk A40
  clear A40
  replace H := Option.bind_eq_some_iff.mp H
  obtain ⟨t149, A50, H⟩ := H
  replace H : ((bits_Up_uint64.f k a0 a1).bind fun bt150 => ((croftref1_Up.f k t148 t149 a2).bind fun bt152 => (if bt150.1 = bt152.1 then (croftlaw1_multiples_uint64.j0 k a0 a1 a2 t148 t149 (bt150.2 != bt152.2)) else (croftlaw1_multiples_uint64.j0 k a0 a1 a2 t148 t149 true)))) = some r := H
  have A5 := Aside0.mk A50
  clear A50
  replace H := Option.bind_eq_some_iff.mp H
  obtain ⟨⟨t150, t151⟩, A60, H⟩ := H
  replace H : ((croftref1_Up.f k t148 t149 a2).bind fun bt152 => (if t150 = bt152.1 then (croftlaw1_multiples_uint64.j0 k a0 a1 a2 t148 t149 (t151 != bt152.2)) else (croftlaw1_multiples_uint64.j0 k a0 a1 a2 t148 t149 true))) = some r := H
  have A6 := Aside0.mk A60
  clear A60
  replace H := Option.bind_eq_some_iff.mp H
  obtain ⟨⟨t152, t153⟩, A70, H⟩ := H
  replace H : (if t150 = t152 then (croftlaw1_multiples_uint64.j0 k a0 a1 a2 t148 t149 (t151 != t153)) else (croftlaw1_multiples_uint64.j0 k a0 a1 a2 t148 t149 true)) = some r := H
  have A7 := Aside0.mk A70
  clear A70
  have HC8 := Aside0.mk H
  clear H
  go_enter Try.func13, Try.ntmps13
  go_upto_region 5 with (first | ((with_reducible refine gate_callee (f := 52) rfl ?_); refine goesL_ (some 15) rfl rfl Try.func52 (by kernel_rfl) rfl #[.int .u64 a0, .int .i64 a2] rfl (by (try simp only [List.map_toArray, List.map_cons, List.map_nil]); first | done | rfl | (simp only [List.length_drop, List.length_take]; rfl)) ?_; (with_reducible refine (croftref1_Cut.calls a0 a2 t148 _ A4.out).mono ?_); rintro e w' ⟨rfl, ⟨nd, rfl⟩⟩; refine ⟨_, rfl, ?_⟩) | ((with_reducible refine gate_callee (f := 52) rfl ?_); refine goesL_ (some 18) rfl rfl Try.func52 (by kernel_rfl) rfl #[.int .u64 a1, .int .i64 a2] rfl (by (try simp only [List.map_toArray, List.map_cons, List.map_nil]); first | done | rfl | (simp only [List.length_drop, List.length_take]; rfl)) ?_; (with_reducible refine (croftref1_Cut.calls a1 a2 t149 _ A5.out).mono ?_); rintro e w' ⟨rfl, ⟨nd, rfl⟩⟩; refine ⟨_, rfl, ?_⟩) | ((with_reducible refine gate_callee (f := 32) rfl ?_); refine goesL_ (some 22) rfl rfl Try.func32 (by kernel_rfl) rfl #[.int .u64 a0, .int .u64 a1] rfl (by (try simp only [List.map_toArray, List.map_cons, List.map_nil]); first | done | rfl | (simp only [List.length_drop, List.length_take]; rfl)) ?_; (with_reducible refine (bits_Up_uint64.calls k a0 a1 t150 t151 _ A6.out).mono ?_); rintro e w' ⟨rfl, ⟨nd, rfl⟩⟩; refine ⟨_, rfl, ?_⟩) | ((with_reducible refine gate_callee (f := 53) rfl ?_); refine goesL_ (some 29) rfl rfl Try.func53 (by kernel_rfl) rfl #[.int .u64 t148, .int .u64 t149, .int .i64 a2] rfl (by (try simp only [List.map_toArray, List.map_cons, List.map_nil]); first | done | rfl | (simp only [List.length_drop, List.length_take]; rfl)) ?_; (with_reducible refine (croftref1_Up.calls k t148 t149 a2 t152 t153 _ A7.out).mono ?_); rintro e w' ⟨rfl, ⟨nd, rfl⟩⟩; refine ⟨_, rfl, ?_⟩))
  (try simp only [Act.put, List.setIfInBounds_toArray, List.set_cons_zero, List.set_cons_succ])
  go_cut [39] (fun v39 wc => ∃ (kq : Nat) (x39_7 : Bool), v39 = .bool x39_7 ∧ Aside0 (croftlaw1_multiples_uint64.j0 kq a0 a1 a2 t148 t149 x39_7 = some r) ∧ Aside0 (kq ≤ k) ∧ Drawn0 w wc)
  case first =>
    have H := HC8.out
    clear HC8
    by_cases c9 : t150 = t152
    · rw [if_pos c9] at H
      have c9b0 : (t150 == t152) = true := beq_iff_eq.mpr c9
      have c9b1 : (t150 != t152) = false := bne_eq_false_iff_eq.mpr c9
      clear c9
      (first | rw [c9b0] | (simp only [i64_w, i32_w]; rw [c9b0]) | skip)
      have H' := Aside0.mk H
      clear H
      go_wp2
      go_meet
      case rel => exact ⟨_, ((t151 != t153)), (by first | rfl | (simp; done) | (simp [*]; done)), H', ⟨by first | omega | exact Nat.le_refl _⟩, by repeat (first | exact Drawn0.refl _ | apply Drawn0.step)⟩
    · rw [if_neg c9] at H
      have c9b0 : (t150 == t152) = false := beq_eq_false_iff_ne.mpr c9
      have c9b1 : (t150 != t152) = true := bne_iff_ne.mpr c9
      (first | rw [c9b0] | (simp only [i64_w, i32_w]; rw [c9b0]) | skip)
      have H' := Aside0.mk H
      clear H
      go_wp2
      go_meet
      case rel => exact ⟨_, (true), (by first | rfl | (simp; done) | (simp [*]; done)), H', ⟨by first | omega | exact Nat.le_refl _⟩, by repeat (first | exact Drawn0.refl _ | apply Drawn0.step)⟩
  case rest =>
    clear HC8
    try clear c1
    try clear p2
    try clear c3
    try clear c5
    try clear c9
    try clear c9b0
    try clear c9b1
    obtain ⟨kq, x39_7, rfl, HA, HJ7, ⟨mc7, rfl⟩⟩ := hcut
    cases kq with
    | zero => exact absurd HA.out (by simp [croftlaw1_multiples_uint64.j0])
    | succ kj7 =>
      have H := HA.out
      clear HA
      simp only [croftlaw1_multiples_uint64.j0] at H
      by_cases c10 : x39_7 = true
      · subst c10
        have H1 : (some false) = some r := by rw [if_pos rfl] at H; exact H
        clear H
        have H := H1
        clear H1
        obtain rfl := Option.some.inj H
        go_wp2
        go_ret
        exact ⟨by first | rfl | (simp; done) | (simp [*]; done), by repeat (first | exact Drawn0.refl _ | apply Drawn0.step)⟩
      · replace c10 := Bool.eq_false_iff.mpr c10
        subst c10
        have H1 : ((bits_Down_uint64.f a0 a1).bind fun bt154 => ((croftref1_Down.f kj7 t148 t149 a2).bind fun bt156 => (if bt154.1 = bt156.1 then (some (bt154.2 == bt156.2)) else (some false)))) = some r := by rw [if_neg (show ¬ (false = true) by decide)] at H; exact H
        clear H
        have H := H1
        clear H1
        replace H := Option.bind_eq_some_iff.mp H
        obtain ⟨⟨t154, t155⟩, A110, H⟩ := H
        replace H : ((croftref1_Down.f kj7 t148 t149 a2).bind fun bt156 => (if t154 = bt156.1 then (some (t155 == bt156.2)) else (some false))) = some r := H
        have A11 := Aside0.mk A110
        clear A110
        replace H := Option.bind_eq_some_iff.mp H
        obtain ⟨⟨t156, t157⟩, A120, H⟩ := H
        replace H : (if t154 = t156 then (some (t155 == t157)) else (some false)) = some r := H
        have A12 := Aside0.mk A120
        clear A120
        by_cases c13 : t154 = t156
        · rw [if_pos c13] at H
          have c13b0 : (t154 == t156) = true := beq_iff_eq.mpr c13
          have c13b1 : (t154 != t156) = false := bne_eq_false_iff_eq.mpr c13
          clear c13
          obtain rfl := Option.some.inj H
          go_wp2_with (first | ((with_reducible refine gate_callee (f := 31) rfl ?_); refine goesL_ (some 43) rfl rfl Try.func31 (by kernel_rfl) rfl #[.int .u64 a0, .int .u64 a1] rfl (by (try simp only [List.map_toArray, List.map_cons, List.map_nil]); first | done | rfl | (simp only [List.length_drop, List.length_take]; rfl)) ?_; (with_reducible refine (bits_Down_uint64.calls a0 a1 t154 t155 _ A11.out).mono ?_); rintro e w' ⟨rfl, ⟨nd, rfl⟩⟩; refine ⟨_, rfl, ?_⟩) | ((with_reducible refine gate_callee (f := 55) rfl ?_); refine goesL_ (some 50) rfl rfl Try.func55 (by kernel_rfl) rfl #[.int .u64 t148, .int .u64 t149, .int .i64 a2] rfl (by (try simp only [List.map_toArray, List.map_cons, List.map_nil]); first | done | rfl | (simp only [List.length_drop, List.length_take]; rfl)) ?_; (with_reducible refine (croftref1_Down.calls kj7 t148 t149 a2 t156 t157 _ A12.out).mono ?_); rintro e w' ⟨rfl, ⟨nd, rfl⟩⟩; refine ⟨_, rfl, ?_⟩))
          go_ret
          exact ⟨by first | rfl | (simp; done) | (simp [*]; done), by repeat (first | exact Drawn0.refl _ | apply Drawn0.step)⟩
        · rw [if_neg c13] at H
          have c13b0 : (t154 == t156) = false := beq_eq_false_iff_ne.mpr c13
          have c13b1 : (t154 != t156) = true := bne_iff_ne.mpr c13
          obtain rfl := Option.some.inj H
          go_wp2_with (first | ((with_reducible refine gate_callee (f := 31) rfl ?_); refine goesL_ (some 43) rfl rfl Try.func31 (by kernel_rfl) rfl #[.int .u64 a0, .int .u64 a1] rfl (by (try simp only [List.map_toArray, List.map_cons, List.map_nil]); first | done | rfl | (simp only [List.length_drop, List.length_take]; rfl)) ?_; (with_reducible refine (bits_Down_uint64.calls a0 a1 t154 t155 _ A11.out).mono ?_); rintro e w' ⟨rfl, ⟨nd, rfl⟩⟩; refine ⟨_, rfl, ?_⟩) | ((with_reducible refine gate_callee (f := 55) rfl ?_); refine goesL_ (some 50) rfl rfl Try.func55 (by kernel_rfl) rfl #[.int .u64 t148, .int .u64 t149, .int .i64 a2] rfl (by (try simp only [List.map_toArray, List.map_cons, List.map_nil]); first | done | rfl | (simp only [List.length_drop, List.length_take]; rfl)) ?_; (with_reducible refine (croftref1_Down.calls kj7 t148 t149 a2 t156 t157 _ A12.out).mono ?_); rintro e w' ⟨rfl, ⟨nd, rfl⟩⟩; refine ⟨_, rfl, ?_⟩))
          go_ret
          exact ⟨by first | rfl | (simp; done) | (simp [*]; done), by repeat (first | exact Drawn0.refl _ | apply Drawn0.step)⟩

/-! ### croftlaw1_small_73: function 73 -/
def croftlaw1_small_73.f (a0 : Int) : Option (Bool) := if a0 = 0 then (some false) else (some ((Go.bits .and .u8 a0 ((a0 - 1) % 256)) == 0))
set_option maxHeartbeats 8000000 in
set_option maxRecDepth 100000 in
theorem croftlaw1_small_73.calls (a0 : Int) (r : Bool) (w : World) (h : croftlaw1_small_73.f a0 = some r) :
    Calls Try.prog 73 #[.int .u8 a0] w fun e w' => e = .returned (.bool r) ∧ Drawn0 w w' := by
  have H : (if a0 = 0 then (some false) else (some ((Go.bits .and .u8 a0 ((a0 - 1) % 256)) == 0))) = some r := h
  clear h
  by_cases c2 : a0 = 0
  · rw [if_pos c2] at H
    have c2b0 : (a0 == 0) = true := beq_iff_eq.mpr c2
    have c2b1 : (a0 != 0) = false := bne_eq_false_iff_eq.mpr c2
    clear c2
    obtain rfl := Option.some.inj H
    go_enter Try.func73, Try.ntmps73
    go_wp2
    go_ret
    exact ⟨by first | rfl | (simp; done) | (simp [*]; done), by repeat (first | exact Drawn0.refl _ | apply Drawn0.step)⟩
  · rw [if_neg c2] at H
    have c2b0 : (a0 == 0) = false := beq_eq_false_iff_ne.mpr c2
    have c2b1 : (a0 != 0) = true := bne_iff_ne.mpr c2
    obtain rfl := Option.some.inj H
    go_enter Try.func73, Try.ntmps73
    go_wp2
    go_ret
    exact ⟨by first | rfl | (simp; done) | (simp [*]; done), by repeat (first | exact Drawn0.refl _ | apply Drawn0.step)⟩

/-! ### croftlaw1_small_59: function 59 -/
def croftlaw1_small_59.f (a0 : Int) (a1 : Int) : Option (Int × Bool) := (croftlaw1_small_73.f a1).bind fun t158 => (if t158 = true then (some (Go.bits .andNot .u8 a0 ((a1 - 1) % 256), true)) else (some (0, false)))
set_option maxHeartbeats 8000000 in
set_option maxRecDepth 100000 in
theorem croftlaw1_small_59.calls (a0 : Int) (a1 : Int) (r1 : Int) (r2 : Bool) (w : World) (h : croftlaw1_small_59.f a0 a1 = some (r1, r2)) :
    Calls Try.prog 59 #[.int .u8 a0, .int .u8 a1] w fun e w' => e = .returned (.tuple #[.int .u8 r1, .bool r2]) ∧ Drawn0 w w' := by
  have H : ((croftlaw1_small_73.f a1).bind fun t158 => (if t158 = true then (some (Go.bits .andNot .u8 a0 ((a1 - 1) % 256), true)) else (some (0, false)))) = some (r1, r2) := h
  clear h
  replace H := Option.bind_eq_some_iff.mp H
  obtain ⟨t158, A30, H⟩ := H
  replace H : (if t158 = true then (some (Go.bits .andNot .u8 a0 ((a1 - 1) % 256), true)) else (some (0, false))) = some (r1, r2) := H
  have A3 := Aside0.mk A30
  clear A30
  by_cases c4 : t158 = true
  · subst c4
    have H1 : (some (Go.bits .andNot .u8 a0 ((a1 - 1) % 256), true)) = some (r1, r2) := by rw [if_pos rfl] at H; exact H
    clear H
    have H := H1
    clear H1
    simp only [Option.some.injEq, Prod.mk.injEq] at H
    obtain ⟨rfl, rfl⟩ := H
    go_enter Try.func59, Try.ntmps59
    go_wp2_with (first | ((with_reducible refine gate_callee (f := 73) rfl ?_); refine goesL_ (some 7) rfl rfl Try.func73 (by kernel_rfl) rfl #[.int .u8 a1] rfl (by (try simp only [List.map_toArray, List.map_cons, List.map_nil]); first | done | rfl | (simp only [List.length_drop, List.length_take]; rfl)) ?_; (with_reducible refine (croftlaw1_small_73.calls a1 true _ A3.out).mono ?_); rintro e w' ⟨rfl, ⟨nd, rfl⟩⟩; refine ⟨_, rfl, ?_⟩))
    go_ret2
    exact ⟨by first | rfl | (simp; done) | (simp [*]; done), by repeat (first | exact Drawn0.refl _ | apply Drawn0.step)⟩
  · replace c4 := Bool.eq_false_iff.mpr c4
    subst c4
    have H1 : (some (0, false)) = some (r1, r2) := by rw [if_neg (show ¬ (false = true) by decide)] at H; exact H
    clear H
    have H := H1
    clear H1
    simp only [Option.some.injEq, Prod.mk.injEq] at H
    obtain ⟨rfl, rfl⟩ := H
    go_enter Try.func59, Try.ntmps59
    go_wp2_with (first | ((with_reducible refine gate_callee (f := 73) rfl ?_); refine goesL_ (some 7) rfl rfl Try.func73 (by kernel_rfl) rfl #[.int .u8 a1] rfl (by (try simp only [List.map_toArray, List.map_cons, List.map_nil]); first | done | rfl | (simp only [List.length_drop, List.length_take]; rfl)) ?_; (with_reducible refine (croftlaw1_small_73.calls a1 false _ A3.out).mono ?_); rintro e w' ⟨rfl, ⟨nd, rfl⟩⟩; refine ⟨_, rfl, ?_⟩))
    go_ret2
    exact ⟨by first | rfl | (simp; done) | (simp [*]; done), by repeat (first | exact Drawn0.refl _ | apply Drawn0.step)⟩

/-! ### croftlaw1_small_58: function 58 -/
def croftlaw1_small_58.j0 : Nat → Int → Int → Bool → Bool → Option (Int × Bool)
  | 0, _, _, _, _ => none
  | k + 1, x1, x6, x7, x20 => if x20 = true then (some (x6, x7)) else (if ((x6 + x1) % 256) = 0 then (some (0, false)) else (some ((x6 + x1) % 256, true)))
def croftlaw1_small_58.f (k : Nat) (a0 : Int) (a1 : Int) : Option (Int × Bool) := (croftlaw1_small_59.f a0 a1).bind fun bt159 => (if bt159.2 = true then (croftlaw1_small_58.j0 k a1 bt159.1 bt159.2 (bt159.1 == a0)) else (croftlaw1_small_58.j0 k a1 bt159.1 bt159.2 true))
theorem croftlaw1_small_58.mono_l : ∀ k, (∀ y0 y1 y2 y3, LeO (croftlaw1_small_58.j0 k y0 y1 y2 y3) (croftlaw1_small_58.j0 (k + 1) y0 y1 y2 y3))
  | 0 => fun _ _ _ _ r h => by simp [croftlaw1_small_58.j0] at h
  | k + 1 => by
    have ih0 := croftlaw1_small_58.mono_l k
    · intro y0 y1 y2 y3
      unfold croftlaw1_small_58.j0
      repeat' first
      | (with_reducible exact ih0 _ _ _ _)
      | (with_reducible exact LeO.refl _)
      | (with_reducible exact LeO.none _)
      | (with_reducible refine LeO.ite ?_ ?_)
      | (with_reducible refine LeO.bind ?_ (fun _ => ?_))
      | exact ih0 _ _ _ _
      | exact LeO.none _
      | refine LeO.ite ?_ ?_
      | refine LeO.bind ?_ (fun _ => ?_)
theorem croftlaw1_small_58.mono : ∀ a0 a1 k, LeO (croftlaw1_small_58.f k a0 a1) (croftlaw1_small_58.f (k + 1) a0 a1) := by
  intro a0 a1 k
  have ih0 := croftlaw1_small_58.mono_l k
  unfold croftlaw1_small_58.f
  repeat' first
      | (with_reducible exact ih0 _ _ _ _)
      | (with_reducible exact LeO.refl _)
      | (with_reducible exact LeO.none _)
      | (with_reducible refine LeO.ite ?_ ?_)
      | (with_reducible refine LeO.bind ?_ (fun _ => ?_))
      | exact ih0 _ _ _ _
      | exact LeO.none _
      | refine LeO.ite ?_ ?_
      | refine LeO.bind ?_ (fun _ => ?_)
set_option maxHeartbeats 8000000 in
set_option maxRecDepth 100000 in
theorem croftlaw1_small_58.calls (k : Nat) (a0 : Int) (a1 : Int) (r1 : Int) (r2 : Bool) (w : World) (h : croftlaw1_small_58.f k a0 a1 = some (r1, r2)) :
    Calls Try.prog 58 #[.int .u8 a0, .int .u8 a1] w fun e w' => e = .returned (.tuple #[.int .u8 r1, .bool r2]) ∧ Drawn0 w w' := by
  have H : ((croftlaw1_small_59.f a0 a1).bind fun bt159 => (if bt159.2 = true then (croftlaw1_small_58.j0 k a1 bt159.1 bt159.2 (bt159.1 == a0)) else (croftlaw1_small_58.j0 k a1 bt159.1 bt159.2 true))) = some (r1, r2) := h
  clear h
  replace H := Option.bind_eq_some_iff.mp H
  obtain ⟨⟨t159, t160⟩, A30, H⟩ := H
  replace H : (if t160 = true then (croftlaw1_small_58.j0 k a1 t159 t160 (t159 == a0)) else (croftlaw1_small_58.j0 k a1 t159 t160 true)) = some (r1, r2) := H
  have A3 := Aside0.mk A30
  clear A30
  have HC4 := Aside0.mk H
  clear H
  go_enter Try.func58, Try.ntmps58
  go_upto_region 2 with (first | ((with_reducible refine gate_callee (f := 59) rfl ?_); refine goesL_ (some 11) rfl rfl Try.func59 (by kernel_rfl) rfl #[.int .u8 a0, .int .u8 a1] rfl (by (try simp only [List.map_toArray, List.map_cons, List.map_nil]); first | done | rfl | (simp only [List.length_drop, List.length_take]; rfl)) ?_; (with_reducible refine (croftlaw1_small_59.calls a0 a1 t159 t160 _ A3.out).mono ?_); rintro e w' ⟨rfl, ⟨nd, rfl⟩⟩; refine ⟨_, rfl, ?_⟩))
  (try simp only [Act.put, List.setIfInBounds_toArray, List.set_cons_zero, List.set_cons_succ])
  go_cut [20] (fun v20 wc => ∃ (kq : Nat) (x20_3 : Bool), v20 = .bool x20_3 ∧ Aside0 (croftlaw1_small_58.j0 kq a1 t159 t160 x20_3 = some (r1, r2)) ∧ Aside0 (kq ≤ k) ∧ Drawn0 w wc)
  case first =>
    have H := HC4.out
    clear HC4
    by_cases c5 : t160 = true
    · subst c5
      have H1 : (croftlaw1_small_58.j0 k a1 t159 true (t159 == a0)) = some (r1, r2) := by rw [if_pos rfl] at H; exact H
      clear H
      have H := H1
      clear H1
      have H' := Aside0.mk H
      clear H
      go_wp2
      go_meet
      case rel => exact ⟨_, ((t159 == a0)), (by first | rfl | (simp; done) | (simp [*]; done)), H', ⟨by first | omega | exact Nat.le_refl _⟩, by repeat (first | exact Drawn0.refl _ | apply Drawn0.step)⟩
    · replace c5 := Bool.eq_false_iff.mpr c5
      subst c5
      have H1 : (croftlaw1_small_58.j0 k a1 t159 false true) = some (r1, r2) := by rw [if_neg (show ¬ (false = true) by decide)] at H; exact H
      clear H
      have H := H1
      clear H1
      have H' := Aside0.mk H
      clear H
      go_wp2
      go_meet
      case rel => exact ⟨_, (true), (by first | rfl | (simp; done) | (simp [*]; done)), H', ⟨by first | omega | exact Nat.le_refl _⟩, by repeat (first | exact Drawn0.refl _ | apply Drawn0.step)⟩
  case rest =>
    clear HC4
    try clear p2
    try clear c5
    obtain ⟨kq, x20_3, rfl, HA, HJ3, ⟨mc3, rfl⟩⟩ := hcut
    cases kq with
    | zero => exact absurd HA.out (by simp [croftlaw1_small_58.j0])
    | succ kj3 =>
      have H := HA.out
      clear HA
      simp only [croftlaw1_small_58.j0] at H
      by_cases c6 : x20_3 = true
      · subst c6
        have H1 : (some (t159, t160)) = some (r1, r2) := by rw [if_pos rfl] at H; exact H
        clear H
        have H := H1
        clear H1
        simp only [Option.some.injEq, Prod.mk.injEq] at H
        obtain ⟨rfl, rfl⟩ := H
        go_wp2
        go_ret2
        exact ⟨by first | rfl | (simp; done) | (simp [*]; done), by repeat (first | exact Drawn0.refl _ | apply Drawn0.step)⟩
      · replace c6 := Bool.eq_false_iff.mpr c6
        subst c6
        have H1 : (if ((t159 + a1) % 256) = 0 then (some (0, false)) else (some ((t159 + a1) % 256, true))) = some (r1, r2) := by rw [if_neg (show ¬ (false = true) by decide)] at H; exact H
        clear H
        have H := H1
        clear H1
        by_cases c7 : ((t159 + a1) % 256) = 0
        · rw [if_pos c7] at H
          have c7b0 : (((t159 + a1) % 256) == 0) = true := beq_iff_eq.mpr c7
          have c7b1 : (((t159 + a1) % 256) != 0) = false := bne_eq_false_iff_eq.mpr c7
          clear c7
          simp only [Option.some.injEq, Prod.mk.injEq] at H
          obtain ⟨rfl, rfl⟩ := H
          go_wp2
          go_ret2
          exact ⟨by first | rfl | (simp; done) | (simp [*]; done), by repeat (first | exact Drawn0.refl _ | apply Drawn0.step)⟩
        · rw [if_neg c7] at H
          have c7b0 : (((t159 + a1) % 256) == 0) = false := beq_eq_false_iff_ne.mpr c7
          have c7b1 : (((t159 + a1) % 256) != 0) = true := bne_iff_ne.mpr c7
          simp only [Option.some.injEq, Prod.mk.injEq] at H
          obtain ⟨rfl, rfl⟩ := H
          go_wp2
          go_ret2
          exact ⟨by first | rfl | (simp; done) | (simp [*]; done), by repeat (first | exact Drawn0.refl _ | apply Drawn0.step)⟩

/-! ### croftlaw1_small_14: function 14 -/
def croftlaw1_small_14.j0 : Nat → Int → Int → Int → Int → Int → Bool → Option (Bool)
  | 0, _, _, _, _, _, _ => none
  | k + 1, x0, x1, x2, x7, x8, x42 => if x42 = true then (some false) else ((croftlaw1_small_59.f ((x0) % 256) ((x1) % 256)).bind fun bt167 => ((croftref1_Down.f k x7 x8 x2).bind fun bt169 => (if (IntKind.u64.wrap (bt167.1)) = bt169.1 then (some (bt167.2 == bt169.2)) else (some false))))
def croftlaw1_small_14.f (k : Nat) (a0 : Int) (a1 : Int) (a2 : Int) : Option (Bool) := (croftref1_Cut.f a0 a2).bind fun t161 => ((croftref1_Cut.f a1 a2).bind fun t162 => ((croftlaw1_small_58.f k ((a0) % 256) ((a1) % 256)).bind fun bt163 => ((croftref1_Up.f k t161 t162 a2).bind fun bt165 => (if (IntKind.u64.wrap (bt163.1)) = bt165.1 then (croftlaw1_small_14.j0 k a0 a1 a2 t161 t162 (bt163.2 != bt165.2)) else (croftlaw1_small_14.j0 k a0 a1 a2 t161 t162 true)))))
theorem croftlaw1_small_14.mono_l : ∀ k, (∀ y0 y1 y2 y3 y4 y5, LeO (croftlaw1_small_14.j0 k y0 y1 y2 y3 y4 y5) (croftlaw1_small_14.j0 (k + 1) y0 y1 y2 y3 y4 y5))
  | 0 => fun _ _ _ _ _ _ r h => by simp [croftlaw1_small_14.j0] at h
  | k + 1 => by
    have ih0 := croftlaw1_small_14.mono_l k
    · intro y0 y1 y2 y3 y4 y5
      unfold croftlaw1_small_14.j0
      repeat' first
      | (with_reducible exact ih0 _ _ _ _ _ _)
      | (with_reducible exact croftlaw1_small_58.mono _ _ _)
      | (with_reducible exact croftref1_Down.mono _ _ _ _)
      | (with_reducible exact croftref1_Up.mono _ _ _ _)
      | (with_reducible exact LeO.refl _)
      | (with_reducible exact LeO.none _)
      | (with_reducible refine LeO.ite ?_ ?_)
      | (with_reducible refine LeO.bind ?_ (fun _ => ?_))
      | exact ih0 _ _ _ _ _ _
      | exact croftlaw1_small_58.mono _ _ _
      | exact croftref1_Down.mono _ _ _ _
      | exact croftref1_Up.mono _ _ _ _
      | exact LeO.none _
      | refine LeO.ite ?_ ?_
      | refine LeO.bind ?_ (fun _ => ?_)
theorem croftlaw1_small_14.mono : ∀ a0 a1 a2 k, LeO (croftlaw1_small_14.f k a0 a1 a2) (croftlaw1_small_14.f (k + 1) a0 a1 a2) := by
  intro a0 a1 a2 k
  have ih0 := croftlaw1_small_14.mono_l k
  unfold croftlaw1_small_14.f
  repeat' first
      | (with_reducible exact ih0 _ _ _ _ _ _)
      | (with_reducible exact croftlaw1_small_58.mono _ _ _)
      | (with_reducible exact croftref1_Down.mono _ _ _ _)
      | (with_reducible exact croftref1_Up.mono _ _ _ _)
      | (with_reducible exact LeO.refl _)
      | (with_reducible exact LeO.none _)
      | (with_reducible refine LeO.ite ?_ ?_)
      | (with_reducible refine LeO.bind ?_ (fun _ => ?_))
      | exact ih0 _ _ _ _ _ _
      | exact croftlaw1_small_58.mono _ _ _
      | exact croftref1_Down.mono _ _ _ _
      | exact croftref1_Up.mono _ _ _ _
      | exact LeO.none _
      | refine LeO.ite ?_ ?_
      | refine LeO.bind ?_ (fun _ => ?_)
set_option maxHeartbeats 8000000 in
set_option maxRecDepth 100000 in
theorem croftlaw1_small_14.calls (k : Nat) (a0 : Int) (a1 : Int) (a2 : Int) (r : Bool) (w : World) (h : croftlaw1_small_14.f k a0 a1 a2 = some r) :
    Calls Try.prog 14 #[.int .u64 a0, .int .u64 a1, .int .i64 a2] w fun e w' => e = .returned (.bool r) ∧ Drawn0 w w' := by
  have H : ((croftref1_Cut.f a0 a2).bind fun t161 => ((croftref1_Cut.f a1 a2).bind fun t162 => ((croftlaw1_small_58.f k ((a0) % 256) ((a1) % 256)).bind fun bt163 => ((croftref1_Up.f k t161 t162 a2).bind fun bt165 => (if (IntKind.u64.wrap (bt163.1)) = bt165.1 then (croftlaw1_small_14.j0 k a0 a1 a2 t161 t162 (bt163.2 != bt165.2)) else (croftlaw1_small_14.j0 k a0 a1 a2 t161 t162 true)))))) = some r := h
  clear h
  replace H := Option.bind_eq_some_iff.mp H
  obtain ⟨t161, A40, H⟩ := H
  replace H : ((croftref1_Cut.f a1 a2).bind fun t162 => ((croftlaw1_small_58.f k ((a0) % 256) ((a1) % 256)).bind fun bt163 => ((croftref1_Up.f k t161 t162 a2).bind fun bt165 => (if (IntKind.u64.wrap (bt163.1)) = bt165.1 then (croftlaw1_small_14.j0 k a0 a1 a2 t161 t162 (bt163.2 != bt165.2)) else (croftlaw1_small_14.j0 k a0 a1 a2 t161 t162 true))))) = some r := H
  have A4 := Aside0.mk A40
  clear A40
  replace H := Option.bind_eq_some_iff.mp H
  obtain ⟨t162, A50, H⟩ := H
  replace H : ((croftlaw1_small_58.f k ((a0) % 256) ((a1) % 256)).bind fun bt163 => ((croftref1_Up.f k t161 t162 a2).bind fun bt165 => (if (IntKind.u64.wrap (bt163.1)) = bt165.1 then (croftlaw1_small_14.j0 k a0 a1 a2 t161 t162 (bt163.2 != bt165.2)) else (croftlaw1_small_14.j0 k a0 a1 a2 t161 t162 true)))) = some r := H
  have A5 := Aside0.mk A50
  clear A50
  replace H := Option.bind_eq_some_iff.mp H
  obtain ⟨⟨t163, t164⟩, A60, H⟩ := H
  replace H : ((croftref1_Up.f k t161 t162 a2).bind fun bt165 => (if (IntKind.u64.wrap (t163)) = bt165.1 then (croftlaw1_small_14.j0 k a0 a1 a2 t161 t162 (t164 != bt165.2)) else (croftlaw1_small_14.j0 k a0 a1 a2 t161 t162 true))) = some r := H
  have A6 := Aside0.mk A60
  clear A60
  replace H := Option.bind_eq_some_iff.mp H
  obtain ⟨⟨t165, t166⟩, A70, H⟩ := H
  replace H : (if (IntKind.u64.wrap (t163)) = t165 then (croftlaw1_small_14.j0 k a0 a1 a2 t161 t162 (t164 != t166)) else (croftlaw1_small_14.j0 k a0 a1 a2 t161 t162 true)) = some r := H
  have A7 := Aside0.mk A70
  clear A70
  have HC8 := Aside0.mk H
  clear H
  go_enter Try.func14, Try.ntmps14
  go_upto_region 5 with (first | ((with_reducible refine gate_callee (f := 52) rfl ?_); refine goesL_ (some 15) rfl rfl Try.func52 (by kernel_rfl) rfl #[.int .u64 a0, .int .i64 a2] rfl (by (try simp only [List.map_toArray, List.map_cons, List.map_nil]); first | done | rfl | (simp only [List.length_drop, List.length_take]; rfl)) ?_; (with_reducible refine (croftref1_Cut.calls a0 a2 t161 _ A4.out).mono ?_); rintro e w' ⟨rfl, ⟨nd, rfl⟩⟩; refine ⟨_, rfl, ?_⟩) | ((with_reducible refine gate_callee (f := 52) rfl ?_); refine goesL_ (some 18) rfl rfl Try.func52 (by kernel_rfl) rfl #[.int .u64 a1, .int .i64 a2] rfl (by (try simp only [List.map_toArray, List.map_cons, List.map_nil]); first | done | rfl | (simp only [List.length_drop, List.length_take]; rfl)) ?_; (with_reducible refine (croftref1_Cut.calls a1 a2 t162 _ A5.out).mono ?_); rintro e w' ⟨rfl, ⟨nd, rfl⟩⟩; refine ⟨_, rfl, ?_⟩) | ((with_reducible refine gate_callee (f := 58) rfl ?_); refine goesL_ (some 24) rfl rfl Try.func58 (by kernel_rfl) rfl #[.int .u8 ((a0) % 256), .int .u8 ((a1) % 256)] rfl (by (try simp only [List.map_toArray, List.map_cons, List.map_nil]); first | done | rfl | (simp only [List.length_drop, List.length_take]; rfl)) ?_; (with_reducible refine (croftlaw1_small_58.calls k ((a0) % 256) ((a1) % 256) t163 t164 _ A6.out).mono ?_); rintro e w' ⟨rfl, ⟨nd, rfl⟩⟩; refine ⟨_, rfl, ?_⟩) | ((with_reducible refine gate_callee (f := 53) rfl ?_); refine goesL_ (some 31) rfl rfl Try.func53 (by kernel_rfl) rfl #[.int .u64 t161, .int .u64 t162, .int .i64 a2] rfl (by (try simp only [List.map_toArray, List.map_cons, List.map_nil]); first | done | rfl | (simp only [List.length_drop, List.length_take]; rfl)) ?_; (with_reducible refine (croftref1_Up.calls k t161 t162 a2 t165 t166 _ A7.out).mono ?_); rintro e w' ⟨rfl, ⟨nd, rfl⟩⟩; refine ⟨_, rfl, ?_⟩))
  (try simp only [Act.put, List.setIfInBounds_toArray, List.set_cons_zero, List.set_cons_succ])
  go_cut [42] (fun v42 wc => ∃ (kq : Nat) (x42_7 : Bool), v42 = .bool x42_7 ∧ Aside0 (croftlaw1_small_14.j0 kq a0 a1 a2 t161 t162 x42_7 = some r) ∧ Aside0 (kq ≤ k) ∧ Drawn0 w wc)
  case first =>
    have H := HC8.out
    clear HC8
    by_cases c9 : (IntKind.u64.wrap (t163)) = t165
    · rw [if_pos c9] at H
      have c9b0 : ((IntKind.u64.wrap (t163)) == t165) = true := beq_iff_eq.mpr c9
      have c9b1 : ((IntKind.u64.wrap (t163)) != t165) = false := bne_eq_false_iff_eq.mpr c9
      clear c9
      (first | rw [c9b0] | (simp only [i64_w, i32_w]; rw [c9b0]) | skip)
      have H' := Aside0.mk H
      clear H
      go_wp2
      go_meet
      case rel => exact ⟨_, ((t164 != t166)), (by first | rfl | (simp; done) | (simp [*]; done)), H', ⟨by first | omega | exact Nat.le_refl _⟩, by repeat (first | exact Drawn0.refl _ | apply Drawn0.step)⟩
    · rw [if_neg c9] at H
      have c9b0 : ((IntKind.u64.wrap (t163)) == t165) = false := beq_eq_false_iff_ne.mpr c9
      have c9b1 : ((IntKind.u64.wrap (t163)) != t165) = true := bne_iff_ne.mpr c9
      (first | rw [c9b0] | (simp only [i64_w, i32_w]; rw [c9b0]) | skip)
      have H' := Aside0.mk H
      clear H
      go_wp2
      go_meet
      case rel => exact ⟨_, (true), (by first | rfl | (simp; done) | (simp [*]; done)), H', ⟨by first | omega | exact Nat.le_refl _⟩, by repeat (first | exact Drawn0.refl _ | apply Drawn0.step)⟩
  case rest =>
    clear HC8
    try clear c1
    try clear p2
    try clear c5
    try clear c9
    try clear c9b0
    try clear c9b1
    obtain ⟨kq, x42_7, rfl, HA, HJ7, ⟨mc7, rfl⟩⟩ := hcut
    cases kq with
    | zero => exact absurd HA.out (by simp [croftlaw1_small_14.j0])
    | succ kj7 =>
      have H := HA.out
      clear HA
      simp only [croftlaw1_small_14.j0] at H
      by_cases c10 : x42_7 = true
      · subst c10
        have H1 : (some false) = some r := by rw [if_pos rfl] at H; exact H
        clear H
        have H := H1
        clear H1
        obtain rfl := Option.some.inj H
        go_wp2
        go_ret
        exact ⟨by first | rfl | (simp; done) | (simp [*]; done), by repeat (first | exact Drawn0.refl _ | apply Drawn0.step)⟩
      · replace c10 := Bool.eq_false_iff.mpr c10
        subst c10
        have H1 : ((croftlaw1_small_59.f ((a0) % 256) ((a1) % 256)).bind fun bt167 => ((croftref1_Down.f kj7 t161 t162 a2).bind fun bt169 => (if (IntKind.u64.wrap (bt167.1)) = bt169.1 then (some (bt167.2 == bt169.2)) else (some false)))) = some r := by rw [if_neg (show ¬ (false = true) by decide)] at H; exact H
        clear H
        have H := H1
        clear H1
        replace H := Option.bind_eq_some_iff.mp H
        obtain ⟨⟨t167, t168⟩, A110, H⟩ := H
        replace H : ((croftref1_Down.f kj7 t161 t162 a2).bind fun bt169 => (if (IntKind.u64.wrap (t167)) = bt169.1 then (some (t168 == bt169.2)) else (some false))) = some r := H
        have A11 := Aside0.mk A110
        clear A110
        replace H := Option.bind_eq_some_iff.mp H
        obtain ⟨⟨t169, t170⟩, A120, H⟩ := H
        replace H : (if (IntKind.u64.wrap (t167)) = t169 then (some (t168 == t170)) else (some false)) = some r := H
        have A12 := Aside0.mk A120
        clear A120
        by_cases c13 : (IntKind.u64.wrap (t167)) = t169
        · rw [if_pos c13] at H
          have c13b0 : ((IntKind.u64.wrap (t167)) == t169) = true := beq_iff_eq.mpr c13
          have c13b1 : ((IntKind.u64.wrap (t167)) != t169) = false := bne_eq_false_iff_eq.mpr c13
          clear c13
          obtain rfl := Option.some.inj H
          go_wp2_with (first | ((with_reducible refine gate_callee (f := 59) rfl ?_); refine goesL_ (some 48) rfl rfl Try.func59 (by kernel_rfl) rfl #[.int .u8 ((a0) % 256), .int .u8 ((a1) % 256)] rfl (by (try simp only [List.map_toArray, List.map_cons, List.map_nil]); first | done | rfl | (simp only [List.length_drop, List.length_take]; rfl)) ?_; (with_reducible refine (croftlaw1_small_59.calls ((a0) % 256) ((a1) % 256) t167 t168 _ A11.out).mono ?_); rintro e w' ⟨rfl, ⟨nd, rfl⟩⟩; refine ⟨_, rfl, ?_⟩) | ((with_reducible refine gate_callee (f := 55) rfl ?_); refine goesL_ (some 55) rfl rfl Try.func55 (by kernel_rfl) rfl #[.int .u64 t161, .int .u64 t162, .int .i64 a2] rfl (by (try simp only [List.map_toArray, List.map_cons, List.map_nil]); first | done | rfl | (simp only [List.length_drop, List.length_take]; rfl)) ?_; (with_reducible refine (croftref1_Down.calls kj7 t161 t162 a2 t169 t170 _ A12.out).mono ?_); rintro e w' ⟨rfl, ⟨nd, rfl⟩⟩; refine ⟨_, rfl, ?_⟩))
          go_ret
          exact ⟨by first | rfl | (simp; done) | (simp [*]; done), by repeat (first | exact Drawn0.refl _ | apply Drawn0.step)⟩
        · rw [if_neg c13] at H
          have c13b0 : ((IntKind.u64.wrap (t167)) == t169) = false := beq_eq_false_iff_ne.mpr c13
          have c13b1 : ((IntKind.u64.wrap (t167)) != t169) = true := bne_iff_ne.mpr c13
          obtain rfl := Option.some.inj H
          go_wp2_with (first | ((with_reducible refine gate_callee (f := 59) rfl ?_); refine goesL_ (some 48) rfl rfl Try.func59 (by kernel_rfl) rfl #[.int .u8 ((a0) % 256), .int .u8 ((a1) % 256)] rfl (by (try simp only [List.map_toArray, List.map_cons, List.map_nil]); first | done | rfl | (simp only [List.length_drop, List.length_take]; rfl)) ?_; (with_reducible refine (croftlaw1_small_59.calls ((a0) % 256) ((a1) % 256) t167 t168 _ A11.out).mono ?_); rintro e w' ⟨rfl, ⟨nd, rfl⟩⟩; refine ⟨_, rfl, ?_⟩) | ((with_reducible refine gate_callee (f := 55) rfl ?_); refine goesL_ (some 55) rfl rfl Try.func55 (by kernel_rfl) rfl #[.int .u64 t161, .int .u64 t162, .int .i64 a2] rfl (by (try simp only [List.map_toArray, List.map_cons, List.map_nil]); first | done | rfl | (simp only [List.length_drop, List.length_take]; rfl)) ?_; (with_reducible refine (croftref1_Down.calls kj7 t161 t162 a2 t169 t170 _ A12.out).mono ?_); rintro e w' ⟨rfl, ⟨nd, rfl⟩⟩; refine ⟨_, rfl, ?_⟩))
          go_ret
          exact ⟨by first | rfl | (simp; done) | (simp [*]; done), by repeat (first | exact Drawn0.refl _ | apply Drawn0.step)⟩

/-! ### croftlaw1_wide_77: function 77 -/
def croftlaw1_wide_77.f (a0 : Int) : Option (Bool) := if a0 = 0 then (some false) else (some ((Go.bits .and .u64 a0 (IntKind.u64.wrap (a0 - 1))) == 0))
set_option maxHeartbeats 8000000 in
set_option maxRecDepth 100000 in
theorem croftlaw1_wide_77.calls (a0 : Int) (r : Bool) (w : World) (h : croftlaw1_wide_77.f a0 = some r) :
    Calls Try.prog 77 #[.int .u64 a0] w fun e w' => e = .returned (.bool r) ∧ Drawn0 w w' := by
  have H : (if a0 = 0 then (some false) else (some ((Go.bits .and .u64 a0 (IntKind.u64.wrap (a0 - 1))) == 0))) = some r := h
  clear h
  by_cases c2 : a0 = 0
  · rw [if_pos c2] at H
    have c2b0 : (a0 == 0) = true := beq_iff_eq.mpr c2
    have c2b1 : (a0 != 0) = false := bne_eq_false_iff_eq.mpr c2
    clear c2
    obtain rfl := Option.some.inj H
    go_enter Try.func77, Try.ntmps77
    go_wp2
    go_ret
    exact ⟨by first | rfl | (simp; done) | (simp [*]; done), by repeat (first | exact Drawn0.refl _ | apply Drawn0.step)⟩
  · rw [if_neg c2] at H
    have c2b0 : (a0 == 0) = false := beq_eq_false_iff_ne.mpr c2
    have c2b1 : (a0 != 0) = true := bne_iff_ne.mpr c2
    obtain rfl := Option.some.inj H
    go_enter Try.func77, Try.ntmps77
    go_wp2
    go_ret
    exact ⟨by first | rfl | (simp; done) | (simp [*]; done), by repeat (first | exact Drawn0.refl _ | apply Drawn0.step)⟩

/-! ### croftlaw1_wide_61: function 61 -/
def croftlaw1_wide_61.f (a0 : Int) (a1 : Int) : Option (Int × Bool) := (croftlaw1_wide_77.f a1).bind fun t171 => (if t171 = true then (some (Go.bits .andNot .u64 a0 (IntKind.u64.wrap (a1 - 1)), true)) else (some (0, false)))
set_option maxHeartbeats 8000000 in
set_option maxRecDepth 100000 in
theorem croftlaw1_wide_61.calls (a0 : Int) (a1 : Int) (r1 : Int) (r2 : Bool) (w : World) (h : croftlaw1_wide_61.f a0 a1 = some (r1, r2)) :
    Calls Try.prog 61 #[.int .u64 a0, .int .u64 a1] w fun e w' => e = .returned (.tuple #[.int .u64 r1, .bool r2]) ∧ Drawn0 w w' := by
  have H : ((croftlaw1_wide_77.f a1).bind fun t171 => (if t171 = true then (some (Go.bits .andNot .u64 a0 (IntKind.u64.wrap (a1 - 1)), true)) else (some (0, false)))) = some (r1, r2) := h
  clear h
  replace H := Option.bind_eq_some_iff.mp H
  obtain ⟨t171, A30, H⟩ := H
  replace H : (if t171 = true then (some (Go.bits .andNot .u64 a0 (IntKind.u64.wrap (a1 - 1)), true)) else (some (0, false))) = some (r1, r2) := H
  have A3 := Aside0.mk A30
  clear A30
  by_cases c4 : t171 = true
  · subst c4
    have H1 : (some (Go.bits .andNot .u64 a0 (IntKind.u64.wrap (a1 - 1)), true)) = some (r1, r2) := by rw [if_pos rfl] at H; exact H
    clear H
    have H := H1
    clear H1
    simp only [Option.some.injEq, Prod.mk.injEq] at H
    obtain ⟨rfl, rfl⟩ := H
    go_enter Try.func61, Try.ntmps61
    go_wp2_with (first | ((with_reducible refine gate_callee (f := 77) rfl ?_); refine goesL_ (some 7) rfl rfl Try.func77 (by kernel_rfl) rfl #[.int .u64 a1] rfl (by (try simp only [List.map_toArray, List.map_cons, List.map_nil]); first | done | rfl | (simp only [List.length_drop, List.length_take]; rfl)) ?_; (with_reducible refine (croftlaw1_wide_77.calls a1 true _ A3.out).mono ?_); rintro e w' ⟨rfl, ⟨nd, rfl⟩⟩; refine ⟨_, rfl, ?_⟩))
    go_ret2
    exact ⟨by first | rfl | (simp; done) | (simp [*]; done), by repeat (first | exact Drawn0.refl _ | apply Drawn0.step)⟩
  · replace c4 := Bool.eq_false_iff.mpr c4
    subst c4
    have H1 : (some (0, false)) = some (r1, r2) := by rw [if_neg (show ¬ (false = true) by decide)] at H; exact H
    clear H
    have H := H1
    clear H1
    simp only [Option.some.injEq, Prod.mk.injEq] at H
    obtain ⟨rfl, rfl⟩ := H
    go_enter Try.func61, Try.ntmps61
    go_wp2_with (first | ((with_reducible refine gate_callee (f := 77) rfl ?_); refine goesL_ (some 7) rfl rfl Try.func77 (by kernel_rfl) rfl #[.int .u64 a1] rfl (by (try simp only [List.map_toArray, List.map_cons, List.map_nil]); first | done | rfl | (simp only [List.length_drop, List.length_take]; rfl)) ?_; (with_reducible refine (croftlaw1_wide_77.calls a1 false _ A3.out).mono ?_); rintro e w' ⟨rfl, ⟨nd, rfl⟩⟩; refine ⟨_, rfl, ?_⟩))
    go_ret2
    exact ⟨by first | rfl | (simp; done) | (simp [*]; done), by repeat (first | exact Drawn0.refl _ | apply Drawn0.step)⟩

/-! ### croftlaw1_wide_60: function 60 -/
def croftlaw1_wide_60.j0 : Nat → Int → Int → Bool → Bool → Option (Int × Bool)
  | 0, _, _, _, _ => none
  | k + 1, x1, x6, x7, x20 => if x20 = true then (some (x6, x7)) else (if (IntKind.u64.wrap (x6 + x1)) = 0 then (some (0, false)) else (some (IntKind.u64.wrap (x6 + x1), true)))
def croftlaw1_wide_60.f (k : Nat) (a0 : Int) (a1 : Int) : Option (Int × Bool) := (croftlaw1_wide_61.f a0 a1).bind fun bt172 => (if bt172.2 = true then (croftlaw1_wide_60.j0 k a1 bt172.1 bt172.2 (bt172.1 == a0)) else (croftlaw1_wide_60.j0 k a1 bt172.1 bt172.2 true))
theorem croftlaw1_wide_60.mono_l : ∀ k, (∀ y0 y1 y2 y3, LeO (croftlaw1_wide_60.j0 k y0 y1 y2 y3) (croftlaw1_wide_60.j0 (k + 1) y0 y1 y2 y3))
  | 0 => fun _ _ _ _ r h => by simp [croftlaw1_wide_60.j0] at h
  | k + 1 => by
    have ih0 := croftlaw1_wide_60.mono_l k
    · intro y0 y1 y2 y3
      unfold croftlaw1_wide_60.j0
      repeat' first
      | (with_reducible exact ih0 _ _ _ _)
      | (with_reducible exact LeO.refl _)
      | (with_reducible exact LeO.none _)
      | (with_reducible refine LeO.ite ?_ ?_)
      | (with_reducible refine LeO.bind ?_ (fun _ => ?_))
      | exact ih0 _ _ _ _
      | exact LeO.none _
      | refine LeO.ite ?_ ?_
      | refine LeO.bind ?_ (fun _ => ?_)
theorem croftlaw1_wide_60.mono : ∀ a0 a1 k, LeO (croftlaw1_wide_60.f k a0 a1) (croftlaw1_wide_60.f (k + 1) a0 a1) := by
  intro a0 a1 k
  have ih0 := croftlaw1_wide_60.mono_l k
  unfold croftlaw1_wide_60.f
  repeat' first
      | (with_reducible exact ih0 _ _ _ _)
      | (with_reducible exact LeO.refl _)
      | (with_reducible exact LeO.none _)
      | (with_reducible refine LeO.ite ?_ ?_)
      | (with_reducible refine LeO.bind ?_ (fun _ => ?_))
      | exact ih0 _ _ _ _
      | exact LeO.none _
      | refine LeO.ite ?_ ?_
      | refine LeO.bind ?_ (fun _ => ?_)
set_option maxHeartbeats 8000000 in
set_option maxRecDepth 100000 in
theorem croftlaw1_wide_60.calls (k : Nat) (a0 : Int) (a1 : Int) (r1 : Int) (r2 : Bool) (w : World) (h : croftlaw1_wide_60.f k a0 a1 = some (r1, r2)) :
    Calls Try.prog 60 #[.int .u64 a0, .int .u64 a1] w fun e w' => e = .returned (.tuple #[.int .u64 r1, .bool r2]) ∧ Drawn0 w w' := by
  have H : ((croftlaw1_wide_61.f a0 a1).bind fun bt172 => (if bt172.2 = true then (croftlaw1_wide_60.j0 k a1 bt172.1 bt172.2 (bt172.1 == a0)) else (croftlaw1_wide_60.j0 k a1 bt172.1 bt172.2 true))) = some (r1, r2) := h
  clear h
  replace H := Option.bind_eq_some_iff.mp H
  obtain ⟨⟨t172, t173⟩, A30, H⟩ := H
  replace H : (if t173 = true then (croftlaw1_wide_60.j0 k a1 t172 t173 (t172 == a0)) else (croftlaw1_wide_60.j0 k a1 t172 t173 true)) = some (r1, r2) := H
  have A3 := Aside0.mk A30
  clear A30
  have HC4 := Aside0.mk H
  clear H
  go_enter Try.func60, Try.ntmps60
  go_upto_region 2 with (first | ((with_reducible refine gate_callee (f := 61) rfl ?_); refine goesL_ (some 11) rfl rfl Try.func61 (by kernel_rfl) rfl #[.int .u64 a0, .int .u64 a1] rfl (by (try simp only [List.map_toArray, List.map_cons, List.map_nil]); first | done | rfl | (simp only [List.length_drop, List.length_take]; rfl)) ?_; (with_reducible refine (croftlaw1_wide_61.calls a0 a1 t172 t173 _ A3.out).mono ?_); rintro e w' ⟨rfl, ⟨nd, rfl⟩⟩; refine ⟨_, rfl, ?_⟩))
  (try simp only [Act.put, List.setIfInBounds_toArray, List.set_cons_zero, List.set_cons_succ])
  go_cut [20] (fun v20 wc => ∃ (kq : Nat) (x20_3 : Bool), v20 = .bool x20_3 ∧ Aside0 (croftlaw1_wide_60.j0 kq a1 t172 t173 x20_3 = some (r1, r2)) ∧ Aside0 (kq ≤ k) ∧ Drawn0 w wc)
  case first =>
    have H := HC4.out
    clear HC4
    by_cases c5 : t173 = true
    · subst c5
      have H1 : (croftlaw1_wide_60.j0 k a1 t172 true (t172 == a0)) = some (r1, r2) := by rw [if_pos rfl] at H; exact H
      clear H
      have H := H1
      clear H1
      have H' := Aside0.mk H
      clear H
      go_wp2
      go_meet
      case rel => exact ⟨_, ((t172 == a0)), (by first | rfl | (simp; done) | (simp [*]; done)), H', ⟨by first | omega | exact Nat.le_refl _⟩, by repeat (first | exact Drawn0.refl _ | apply Drawn0.step)⟩
    · replace c5 := Bool.eq_false_iff.mpr c5
      subst c5
      have H1 : (croftlaw1_wide_60.j0 k a1 t172 false true) = some (r1, r2) := by rw [if_neg (show ¬ (false = true) by decide)] at H; exact H
      clear H
      have H := H1
      clear H1
      have H' := Aside0.mk H
      clear H
      go_wp2
      go_meet
      case rel => exact ⟨_, (true), (by first | rfl | (simp; done) | (simp [*]; done)), H', ⟨by first | omega | exact Nat.le_refl _⟩, by repeat (first | exact Drawn0.refl _ | apply Drawn0.step)⟩
  case rest =>
    clear HC4
    try clear p2
    try clear c5
    obtain ⟨kq, x20_3, rfl, HA, HJ3, ⟨mc3, rfl⟩⟩ := hcut
    cases kq with
    | zero => exact absurd HA.out (by simp [croftlaw1_wide_60.j0])
    | succ kj3 =>
      have H := HA.out
      clear HA
      simp only [croftlaw1_wide_60.j0] at H
      by_cases c6 : x20_3 = true
      · subst c6
        have H1 : (some (t172, t173)) = some (r1, r2) := by rw [if_pos rfl] at H; exact H
        clear H
        have H := H1
        clear H1
        simp only [Option.some.injEq, Prod.mk.injEq] at H
        obtain ⟨rfl, rfl⟩ := H
        go_wp2
        go_ret2
        exact ⟨by first | rfl | (simp; done) | (simp [*]; done), by repeat (first | exact Drawn0.refl _ | apply Drawn0.step)⟩
      · replace c6 := Bool.eq_false_iff.mpr c6
        subst c6
        have H1 : (if (IntKind.u64.wrap (t172 + a1)) = 0 then (some (0, false)) else (some (IntKind.u64.wrap (t172 + a1), true))) = some (r1, r2) := by rw [if_neg (show ¬ (false = true) by decide)] at H; exact H
        clear H
        have H := H1
        clear H1
        by_cases c7 : (IntKind.u64.wrap (t172 + a1)) = 0
        · rw [if_pos c7] at H
          have c7b0 : ((IntKind.u64.wrap (t172 + a1)) == 0) = true := beq_iff_eq.mpr c7
          have c7b1 : ((IntKind.u64.wrap (t172 + a1)) != 0) = false := bne_eq_false_iff_eq.mpr c7
          clear c7
          simp only [Option.some.injEq, Prod.mk.injEq] at H
          obtain ⟨rfl, rfl⟩ := H
          go_wp2
          go_ret2
          exact ⟨by first | rfl | (simp; done) | (simp [*]; done), by repeat (first | exact Drawn0.refl _ | apply Drawn0.step)⟩
        · rw [if_neg c7] at H
          have c7b0 : ((IntKind.u64.wrap (t172 + a1)) == 0) = false := beq_eq_false_iff_ne.mpr c7
          have c7b1 : ((IntKind.u64.wrap (t172 + a1)) != 0) = true := bne_iff_ne.mpr c7
          simp only [Option.some.injEq, Prod.mk.injEq] at H
          obtain ⟨rfl, rfl⟩ := H
          go_wp2
          go_ret2
          exact ⟨by first | rfl | (simp; done) | (simp [*]; done), by repeat (first | exact Drawn0.refl _ | apply Drawn0.step)⟩

/-! ### croftlaw1_wide_15: function 15 -/
def croftlaw1_wide_15.j0 : Nat → Int → Int → Int → Int → Int → Bool → Option (Bool)
  | 0, _, _, _, _, _, _ => none
  | k + 1, x0, x1, x2, x7, x8, x39 => if x39 = true then (some false) else ((croftlaw1_wide_61.f x0 x1).bind fun bt180 => ((croftref1_Down.f k x7 x8 x2).bind fun bt182 => (if bt180.1 = bt182.1 then (some (bt180.2 == bt182.2)) else (some false))))
def croftlaw1_wide_15.f (k : Nat) (a0 : Int) (a1 : Int) (a2 : Int) : Option (Bool) := (croftref1_Cut.f a0 a2).bind fun t174 => ((croftref1_Cut.f a1 a2).bind fun t175 => ((croftlaw1_wide_60.f k a0 a1).bind fun bt176 => ((croftref1_Up.f k t174 t175 a2).bind fun bt178 => (if bt176.1 = bt178.1 then (croftlaw1_wide_15.j0 k a0 a1 a2 t174 t175 (bt176.2 != bt178.2)) else (croftlaw1_wide_15.j0 k a0 a1 a2 t174 t175 true)))))
theorem croftlaw1_wide_15.mono_l : ∀ k, (∀ y0 y1 y2 y3 y4 y5, LeO (croftlaw1_wide_15.j0 k y0 y1 y2 y3 y4 y5) (croftlaw1_wide_15.j0 (k + 1) y0 y1 y2 y3 y4 y5))
  | 0 => fun _ _ _ _ _ _ r h => by simp [croftlaw1_wide_15.j0] at h
  | k + 1 => by
    have ih0 := croftlaw1_wide_15.mono_l k
    · intro y0 y1 y2 y3 y4 y5
      unfold croftlaw1_wide_15.j0
      repeat' first
      | (with_reducible exact ih0 _ _ _ _ _ _)
      | (with_reducible exact croftlaw1_wide_60.mono _ _ _)
      | (with_reducible exact croftref1_Down.mono _ _ _ _)
      | (with_reducible exact croftref1_Up.mono _ _ _ _)
      | (with_reducible exact LeO.refl _)
      | (with_reducible exact LeO.none _)
      | (with_reducible refine LeO.ite ?_ ?_)
      | (with_reducible refine LeO.bind ?_ (fun _ => ?_))
      | exact ih0 _ _ _ _ _ _
      | exact croftlaw1_wide_60.mono _ _ _
      | exact croftref1_Down.mono _ _ _ _
      | exact croftref1_Up.mono _ _ _ _
      | exact LeO.none _
      | refine LeO.ite ?_ ?_
      | refine LeO.bind ?_ (fun _ => ?_)
theorem croftlaw1_wide_15.mono : ∀ a0 a1 a2 k, LeO (croftlaw1_wide_15.f k a0 a1 a2) (croftlaw1_wide_15.f (k + 1) a0 a1 a2) := by
  intro a0 a1 a2 k
  have ih0 := croftlaw1_wide_15.mono_l k
  unfold croftlaw1_wide_15.f
  repeat' first
      | (with_reducible exact ih0 _ _ _ _ _ _)
      | (with_reducible exact croftlaw1_wide_60.mono _ _ _)
      | (with_reducible exact croftref1_Down.mono _ _ _ _)
      | (with_reducible exact croftref1_Up.mono _ _ _ _)
      | (with_reducible exact LeO.refl _)
      | (with_reducible exact LeO.none _)
      | (with_reducible refine LeO.ite ?_ ?_)
      | (with_reducible refine LeO.bind ?_ (fun _ => ?_))
      | exact ih0 _ _ _ _ _ _
      | exact croftlaw1_wide_60.mono _ _ _
      | exact croftref1_Down.mono _ _ _ _
      | exact croftref1_Up.mono _ _ _ _
      | exact LeO.none _
      | refine LeO.ite ?_ ?_
      | refine LeO.bind ?_ (fun _ => ?_)
set_option maxHeartbeats 8000000 in
set_option maxRecDepth 100000 in
theorem croftlaw1_wide_15.calls (k : Nat) (a0 : Int) (a1 : Int) (a2 : Int) (r : Bool) (w : World) (h : croftlaw1_wide_15.f k a0 a1 a2 = some r) :
    Calls Try.prog 15 #[.int .u64 a0, .int .u64 a1, .int .i64 a2] w fun e w' => e = .returned (.bool r) ∧ Drawn0 w w' := by
  have H : ((croftref1_Cut.f a0 a2).bind fun t174 => ((croftref1_Cut.f a1 a2).bind fun t175 => ((croftlaw1_wide_60.f k a0 a1).bind fun bt176 => ((croftref1_Up.f k t174 t175 a2).bind fun bt178 => (if bt176.1 = bt178.1 then (croftlaw1_wide_15.j0 k a0 a1 a2 t174 t175 (bt176.2 != bt178.2)) else (croftlaw1_wide_15.j0 k a0 a1 a2 t174 t175 true)))))) = some r := h
  clear h
  replace H := Option.bind_eq_some_iff.mp H
  obtain ⟨t174, A40, H⟩ := H
  replace H : ((croftref1_Cut.f a1 a2).bind fun t175 => ((croftlaw1_wide_60.f k a0 a1).bind fun bt176 => ((croftref1_Up.f k t174 t175 a2).bind fun bt178 => (if bt176.1 = bt178.1 then (croftlaw1_wide_15.j0 k a0 a1 a2 t174 t175 (bt176.2 != bt178.2)) else (croftlaw1_wide_15.j0 k a0 a1 a2 t174 t175 true))))) = some r := H
  have A4 := Aside0.mk A40
  clear A40
  replace H := Option.bind_eq_some_iff.mp H
  obtain ⟨t175, A50, H⟩ := H
  replace H : ((croftlaw1_wide_60.f k a0 a1).bind fun bt176 => ((croftref1_Up.f k t174 t175 a2).bind fun bt178 => (if bt176.1 = bt178.1 then (croftlaw1_wide_15.j0 k a0 a1 a2 t174 t175 (bt176.2 != bt178.2)) else (croftlaw1_wide_15.j0 k a0 a1 a2 t174 t175 true)))) = some r := H
  have A5 := Aside0.mk A50
  clear A50
  replace H := Option.bind_eq_some_iff.mp H
  obtain ⟨⟨t176, t177⟩, A60, H⟩ := H
  replace H : ((croftref1_Up.f k t174 t175 a2).bind fun bt178 => (if t176 = bt178.1 then (croftlaw1_wide_15.j0 k a0 a1 a2 t174 t175 (t177 != bt178.2)) else (croftlaw1_wide_15.j0 k a0 a1 a2 t174 t175 true))) = some r := H
  have A6 := Aside0.mk A60
  clear A60
  replace H := Option.bind_eq_some_iff.mp H
  obtain ⟨⟨t178, t179⟩, A70, H⟩ := H
  replace H : (if t176 = t178 then (croftlaw1_wide_15.j0 k a0 a1 a2 t174 t175 (t177 != t179)) else (croftlaw1_wide_15.j0 k a0 a1 a2 t174 t175 true)) = some r := H
  have A7 := Aside0.mk A70
  clear A70
  have HC8 := Aside0.mk H
  clear H
  go_enter Try.func15, Try.ntmps15
  go_upto_region 5 with (first | ((with_reducible refine gate_callee (f := 52) rfl ?_); refine goesL_ (some 15) rfl rfl Try.func52 (by kernel_rfl) rfl #[.int .u64 a0, .int .i64 a2] rfl (by (try simp only [List.map_toArray, List.map_cons, List.map_nil]); first | done | rfl | (simp only [List.length_drop, List.length_take]; rfl)) ?_; (with_reducible refine (croftref1_Cut.calls a0 a2 t174 _ A4.out).mono ?_); rintro e w' ⟨rfl, ⟨nd, rfl⟩⟩; refine ⟨_, rfl, ?_⟩) | ((with_reducible refine gate_callee (f := 52) rfl ?_); refine goesL_ (some 18) rfl rfl Try.func52 (by kernel_rfl) rfl #[.int .u64 a1, .int .i64 a2] rfl (by (try simp only [List.map_toArray, List.map_cons, List.map_nil]); first | done | rfl | (simp only [List.length_drop, List.length_take]; rfl)) ?_; (with_reducible refine (croftref1_Cut.calls a1 a2 t175 _ A5.out).mono ?_); rintro e w' ⟨rfl, ⟨nd, rfl⟩⟩; refine ⟨_, rfl, ?_⟩) | ((with_reducible refine gate_callee (f := 60) rfl ?_); refine goesL_ (some 22) rfl rfl Try.func60 (by kernel_rfl) rfl #[.int .u64 a0, .int .u64 a1] rfl (by (try simp only [List.map_toArray, List.map_cons, List.map_nil]); first | done | rfl | (simp only [List.length_drop, List.length_take]; rfl)) ?_; (with_reducible refine (croftlaw1_wide_60.calls k a0 a1 t176 t177 _ A6.out).mono ?_); rintro e w' ⟨rfl, ⟨nd, rfl⟩⟩; refine ⟨_, rfl, ?_⟩) | ((with_reducible refine gate_callee (f := 53) rfl ?_); refine goesL_ (some 29) rfl rfl Try.func53 (by kernel_rfl) rfl #[.int .u64 t174, .int .u64 t175, .int .i64 a2] rfl (by (try simp only [List.map_toArray, List.map_cons, List.map_nil]); first | done | rfl | (simp only [List.length_drop, List.length_take]; rfl)) ?_; (with_reducible refine (croftref1_Up.calls k t174 t175 a2 t178 t179 _ A7.out).mono ?_); rintro e w' ⟨rfl, ⟨nd, rfl⟩⟩; refine ⟨_, rfl, ?_⟩))
  (try simp only [Act.put, List.setIfInBounds_toArray, List.set_cons_zero, List.set_cons_succ])
  go_cut [39] (fun v39 wc => ∃ (kq : Nat) (x39_7 : Bool), v39 = .bool x39_7 ∧ Aside0 (croftlaw1_wide_15.j0 kq a0 a1 a2 t174 t175 x39_7 = some r) ∧ Aside0 (kq ≤ k) ∧ Drawn0 w wc)
  case first =>
    have H := HC8.out
    clear HC8
    by_cases c9 : t176 = t178
    · rw [if_pos c9] at H
      have c9b0 : (t176 == t178) = true := beq_iff_eq.mpr c9
      have c9b1 : (t176 != t178) = false := bne_eq_false_iff_eq.mpr c9
      clear c9
      (first | rw [c9b0] | (simp only [i64_w, i32_w]; rw [c9b0]) | skip)
      have H' := Aside0.mk H
      clear H
      go_wp2
      go_meet
      case rel => exact ⟨_, ((t177 != t179)), (by first | rfl | (simp; done) | (simp [*]; done)), H', ⟨by first | omega | exact Nat.le_refl _⟩, by repeat (first | exact Drawn0.refl _ | apply Drawn0.step)⟩
    · rw [if_neg c9] at H
      have c9b0 : (t176 == t178) = false := beq_eq_false_iff_ne.mpr c9
      have c9b1 : (t176 != t178) = true := bne_iff_ne.mpr c9
      (first | rw [c9b0] | (simp only [i64_w, i32_w]; rw [c9b0]) | skip)
      have H' := Aside0.mk H
      clear H
      go_wp2
      go_meet
      case rel => exact ⟨_, (true), (by first | rfl | (simp; done) | (simp [*]; done)), H', ⟨by first | omega | exact Nat.le_refl _⟩, by repeat (first | exact Drawn0.refl _ | apply Drawn0.step)⟩
  case rest =>
    clear HC8
    try clear c1
    try clear p2
    try clear c5
    try clear c6
    try clear c9
    try clear c9b0
    try clear c9b1
    obtain ⟨kq, x39_7, rfl, HA, HJ7, ⟨mc7, rfl⟩⟩ := hcut
    cases kq with
    | zero => exact absurd HA.out (by simp [croftlaw1_wide_15.j0])
    | succ kj7 =>
      have H := HA.out
      clear HA
      simp only [croftlaw1_wide_15.j0] at H
      by_cases c10 : x39_7 = true
      · subst c10
        have H1 : (some false) = some r := by rw [if_pos rfl] at H; exact H
        clear H
        have H := H1
        clear H1
        obtain rfl := Option.some.inj H
        go_wp2
        go_ret
        exact ⟨by first | rfl | (simp; done) | (simp [*]; done), by repeat (first | exact Drawn0.refl _ | apply Drawn0.step)⟩
      · replace c10 := Bool.eq_false_iff.mpr c10
        subst c10
        have H1 : ((croftlaw1_wide_61.f a0 a1).bind fun bt180 => ((croftref1_Down.f kj7 t174 t175 a2).bind fun bt182 => (if bt180.1 = bt182.1 then (some (bt180.2 == bt182.2)) else (some false)))) = some r := by rw [if_neg (show ¬ (false = true) by decide)] at H; exact H
        clear H
        have H := H1
        clear H1
        replace H := Option.bind_eq_some_iff.mp H
        obtain ⟨⟨t180, t181⟩, A110, H⟩ := H
        replace H : ((croftref1_Down.f kj7 t174 t175 a2).bind fun bt182 => (if t180 = bt182.1 then (some (t181 == bt182.2)) else (some false))) = some r := H
        have A11 := Aside0.mk A110
        clear A110
        replace H := Option.bind_eq_some_iff.mp H
        obtain ⟨⟨t182, t183⟩, A120, H⟩ := H
        replace H : (if t180 = t182 then (some (t181 == t183)) else (some false)) = some r := H
        have A12 := Aside0.mk A120
        clear A120
        by_cases c13 : t180 = t182
        · rw [if_pos c13] at H
          have c13b0 : (t180 == t182) = true := beq_iff_eq.mpr c13
          have c13b1 : (t180 != t182) = false := bne_eq_false_iff_eq.mpr c13
          clear c13
          obtain rfl := Option.some.inj H
          go_wp2_with (first | ((with_reducible refine gate_callee (f := 61) rfl ?_); refine goesL_ (some 43) rfl rfl Try.func61 (by kernel_rfl) rfl #[.int .u64 a0, .int .u64 a1] rfl (by (try simp only [List.map_toArray, List.map_cons, List.map_nil]); first | done | rfl | (simp only [List.length_drop, List.length_take]; rfl)) ?_; (with_reducible refine (croftlaw1_wide_61.calls a0 a1 t180 t181 _ A11.out).mono ?_); rintro e w' ⟨rfl, ⟨nd, rfl⟩⟩; refine ⟨_, rfl, ?_⟩) | ((with_reducible refine gate_callee (f := 55) rfl ?_); refine goesL_ (some 50) rfl rfl Try.func55 (by kernel_rfl) rfl #[.int .u64 t174, .int .u64 t175, .int .i64 a2] rfl (by (try simp only [List.map_toArray, List.map_cons, List.map_nil]); first | done | rfl | (simp only [List.length_drop, List.length_take]; rfl)) ?_; (with_reducible refine (croftref1_Down.calls kj7 t174 t175 a2 t182 t183 _ A12.out).mono ?_); rintro e w' ⟨rfl, ⟨nd, rfl⟩⟩; refine ⟨_, rfl, ?_⟩))
          go_ret
          exact ⟨by first | rfl | (simp; done) | (simp [*]; done), by repeat (first | exact Drawn0.refl _ | apply Drawn0.step)⟩
        · rw [if_neg c13] at H
          have c13b0 : (t180 == t182) = false := beq_eq_false_iff_ne.mpr c13
          have c13b1 : (t180 != t182) = true := bne_iff_ne.mpr c13
          obtain rfl := Option.some.inj H
          go_wp2_with (first | ((with_reducible refine gate_callee (f := 61) rfl ?_); refine goesL_ (some 43) rfl rfl Try.func61 (by kernel_rfl) rfl #[.int .u64 a0, .int .u64 a1] rfl (by (try simp only [List.map_toArray, List.map_cons, List.map_nil]); first | done | rfl | (simp only [List.length_drop, List.length_take]; rfl)) ?_; (with_reducible refine (croftlaw1_wide_61.calls a0 a1 t180 t181 _ A11.out).mono ?_); rintro e w' ⟨rfl, ⟨nd, rfl⟩⟩; refine ⟨_, rfl, ?_⟩) | ((with_reducible refine gate_callee (f := 55) rfl ?_); refine goesL_ (some 50) rfl rfl Try.func55 (by kernel_rfl) rfl #[.int .u64 t174, .int .u64 t175, .int .i64 a2] rfl (by (try simp only [List.map_toArray, List.map_cons, List.map_nil]); first | done | rfl | (simp only [List.length_drop, List.length_take]; rfl)) ?_; (with_reducible refine (croftref1_Down.calls kj7 t174 t175 a2 t182 t183 _ A12.out).mono ?_); rintro e w' ⟨rfl, ⟨nd, rfl⟩⟩; refine ⟨_, rfl, ?_⟩))
          go_ret
          exact ⟨by first | rfl | (simp; done) | (simp [*]; done), by repeat (first | exact Drawn0.refl _ | apply Drawn0.step)⟩

end Go.Proofs.Ytccpoflhmooanaa.PBitsMultiples
