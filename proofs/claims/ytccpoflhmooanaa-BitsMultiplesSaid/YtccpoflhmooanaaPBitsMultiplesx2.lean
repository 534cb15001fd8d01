-- PRINTED BY print.sh 35421559b90ae4d0a3588c463048766b98c2df88dd9212a6774a882060cdf62d: not written by this session
import Derived.Test.YtccpoflhmooanaaPBitsMultiplesx0
import Derived.Test.YtccpoflhmooanaaPBitsMultiplesx1
namespace Go.Proofs.Ytccpoflhmooanaa.PBitsMultiples
open Go.RowKit Go.Proofs.YtccpoflhmooanaaW.PrintWords Go.Proofs.YtccpoflhmooanaaW.PrintLast Go.Proofs.YtccpoflhmooanaaW.PrintMore
attribute [local go_sem] max2_int min2_int max_two min_two max_three min_three max_four min_four   -- for this text's walks alone
set_option linter.unusedVariables false
set_option linter.unusedSimpArgs false

/-! ### bits_Up_uint16: function 50 -/
def bits_Up_uint16.j0 : Nat → Int → Int → Bool → Bool → Option (Int × Bool)
  | 0, _, _, _, _ => none
  | k + 1, x1, x6, x7, x20 => if x20 = true then (some (x6, x7)) else (if (IntKind.u16.wrap (x6 + x1)) = 0 then (some (0, false)) else (some (IntKind.u16.wrap (x6 + x1), true)))
def bits_Up_uint16.f (k : Nat) (a0 : Int) (a1 : Int) : Option (Int × Bool) := (bits_Down_uint16.f a0 a1).bind fun bt120 => (if bt120.2 = true then (bits_Up_uint16.j0 k a1 bt120.1 bt120.2 (bt120.1 == a0)) else (bits_Up_uint16.j0 k a1 bt120.1 bt120.2 true))
theorem bits_Up_uint16.mono_l : ∀ k, (∀ y0 y1 y2 y3, LeO (bits_Up_uint16.j0 k y0 y1 y2 y3) (bits_Up_uint16.j0 (k + 1) y0 y1 y2 y3))
  | 0 => fun _ _ _ _ r h => by simp [bits_Up_uint16.j0] at h
  | k + 1 => by
    have ih0 := bits_Up_uint16.mono_l k
    · intro y0 y1 y2 y3
      unfold bits_Up_uint16.j0
      repeat' first
      | (with_reducible exact ih0 _ _ _ _)
      | (with_reducible exact LeO.refl _)
      | (with_reducible exact LeO.none _)
      | (with_reducible refine LeO.ite ?_ ?_)
      | (with_reducible refine LeO.bind ?_ (fun _ => ?_))
      | exact ih0 _ _ _ _
      | exact LeO.none _
      | refine LeO.ite ?_ ?_
      | refine LeO.bind ?_ (fun _ => ?_)
theorem bits_Up_uint16.mono : ∀ a0 a1 k, LeO (bits_Up_uint16.f k a0 a1) (bits_Up_uint16.f (k + 1) a0 a1) := by
  intro a0 a1 k
  have ih0 := bits_Up_uint16.mono_l k
  unfold bits_Up_uint16.f
  repeat' first
      | (with_reducible exact ih0 _ _ _ _)
      | (with_reducible exact LeO.refl _)
      | (with_reducible exact LeO.none _)
      | (with_reducible refine LeO.ite ?_ ?_)
      | (with_reducible refine LeO.bind ?_ (fun _ => ?_))
      | exact ih0 _ _ _ _
      | exact LeO.none _
      | refine LeO.ite ?_ ?_
      | refine LeO.bind ?_ (fun _ => ?_)
set_option maxHeartbeats 8000000 in
set_option maxRecDepth 100000 in
theorem bits_Up_uint16.calls (k : Nat) (a0 : Int) (a1 : Int) (r1 : Int) (r2 : Bool) (w : World) (h : bits_Up_uint16.f k a0 a1 = some (r1, r2)) :
    Calls Try.prog 50 #[.int .u16 a0, .int .u16 a1] w fun e w' => e = .returned (.tuple #[.int .u16 r1, .bool r2]) ∧ Drawn0 w w' := by
  have H : ((bits_Down_uint16.f a0 a1).bind fun bt120 => (if bt120.2 = true then (bits_Up_uint16.j0 k a1 bt120.1 bt120.2 (bt120.1 == a0)) else (bits_Up_uint16.j0 k a1 bt120.1 bt120.2 true))) = some (r1, r2) := h
  clear h
  replace H := Option.bind_eq_some_iff.mp H
  obtain ⟨⟨t120, t121⟩, A30, H⟩ := H
  replace H : (if t121 = true then (bits_Up_uint16.j0 k a1 t120 t121 (t120 == a0)) else (bits_Up_uint16.j0 k a1 t120 t121 true)) = some (r1, r2) := H
  have A3 := Aside0.mk A30
  clear A30
  have HC4 := Aside0.mk H
  clear H
  go_enter Try.func50, Try.ntmps50
  go_upto_region 2 with (first | ((with_reducible refine gate_callee (f := 56) rfl ?_); refine goesL_ (some 11) rfl rfl Try.func56 (by kernel_rfl) rfl #[.int .u16 a0, .int .u16 a1] rfl (by (try simp only [List.map_toArray, List.map_cons, List.map_nil]); first | done | rfl | (simp only [List.length_drop, List.length_take]; rfl)) ?_; (with_reducible refine (bits_Down_uint16.calls a0 a1 t120 t121 _ A3.out).mono ?_); rintro e w' ⟨rfl, ⟨nd, rfl⟩⟩; refine ⟨_, rfl, ?_⟩))
  (try simp only [Act.put, List.setIfInBounds_toArray, List.set_cons_zero, List.set_cons_succ])
  go_cut [20] (fun v20 wc => ∃ (kq : Nat) (x20_3 : Bool), v20 = .bool x20_3 ∧ Aside0 (bits_Up_uint16.j0 kq a1 t120 t121 x20_3 = some (r1, r2)) ∧ Aside0 (kq ≤ k) ∧ Drawn0 w wc)
  case first =>
    have H := HC4.out
    clear HC4
    by_cases c5 : t121 = true
    · subst c5
      have H1 : (bits_Up_uint16.j0 k a1 t120 true (t120 == a0)) = some (r1, r2) := by rw [if_pos rfl] at H; exact H
      clear H
      have H := H1
      clear H1
      have H' := Aside0.mk H
      clear H
      go_wp2
      go_meet
      case rel => exact ⟨_, ((t120 == a0)), (by first | rfl | (simp; done) | (simp [*]; done)), H', ⟨by first | omega | exact Nat.le_refl _⟩, by repeat (first | exact Drawn0.refl _ | apply Drawn0.step)⟩
    · replace c5 := Bool.eq_false_iff.mpr c5
      subst c5
      have H1 : (bits_Up_uint16.j0 k a1 t120 false true) = some (r1, r2) := by rw [if_neg (show ¬ (false = true) by decide)] at H; exact H
      clear H
      have H := H1
      clear H1
      have H' := Aside0.mk H
      clear H
      go_wp2
      go_meet
      case rel => exact ⟨_, (true), (by first | rfl | (simp; done) | (simp [*]; done)), H', ⟨by first | omega | exact Nat.le_refl _⟩, by repeat (first | exact Drawn0.refl _ | apply Drawn0.step)⟩
  case rest =>
    clear HC4
    try clear p2
    try clear c5
    obtain ⟨kq, x20_3, rfl, HA, HJ3, ⟨mc3, rfl⟩⟩ := hcut
    cases kq with
    | zero => exact absurd HA.out (by simp [bits_Up_uint16.j0])
    | succ kj3 =>
      have H := HA.out
      clear HA
      simp only [bits_Up_uint16.j0] at H
      by_cases c6 : x20_3 = true
      · subst c6
        have H1 : (some (t120, t121)) = some (r1, r2) := by rw [if_pos rfl] at H; exact H
        clear H
        have H := H1
        clear H1
        simp only [Option.some.injEq, Prod.mk.injEq] at H
        obtain ⟨rfl, rfl⟩ := H
        go_wp2
        go_ret2
        exact ⟨by first | rfl | (simp; done) | (simp [*]; done), by repeat (first | exact Drawn0.refl _ | apply Drawn0.step)⟩
      · replace c6 := Bool.eq_false_iff.mpr c6
        subst c6
        have H1 : (if (IntKind.u16.wrap (t120 + a1)) = 0 then (some (0, false)) else (some (IntKind.u16.wrap (t120 + a1), true))) = some (r1, r2) := by rw [if_neg (show ¬ (false = true) by decide)] at H; exact H
        clear H
        have H := H1
        clear H1
        by_cases c7 : (IntKind.u16.wrap (t120 + a1)) = 0
        · rw [if_pos c7] at H
          have c7b0 : ((IntKind.u16.wrap (t120 + a1)) == 0) = true := beq_iff_eq.mpr c7
          have c7b1 : ((IntKind.u16.wrap (t120 + a1)) != 0) = false := bne_eq_false_iff_eq.mpr c7
          clear c7
          simp only [Option.some.injEq, Prod.mk.injEq] at H
          obtain ⟨rfl, rfl⟩ := H
          go_wp2
          go_ret2
          exact ⟨by first | rfl | (simp; done) | (simp [*]; done), by repeat (first | exact Drawn0.refl _ | apply Drawn0.step)⟩
        · rw [if_neg c7] at H
          have c7b0 : ((IntKind.u16.wrap (t120 + a1)) == 0) = false := beq_eq_false_iff_ne.mpr c7
          have c7b1 : ((IntKind.u16.wrap (t120 + a1)) != 0) = true := bne_iff_ne.mpr c7
          simp only [Option.some.injEq, Prod.mk.injEq] at H
          obtain ⟨rfl, rfl⟩ := H
          go_wp2
          go_ret2
          exact ⟨by first | rfl | (simp; done) | (simp [*]; done), by repeat (first | exact Drawn0.refl _ | apply Drawn0.step)⟩

/-! ### croftlaw1_multiples_uint16: function 11 -/
def croftlaw1_multiples_uint16.j0 : Nat → Int → Int → Int → Int → Int → Bool → Option (Bool)
  | 0, _, _, _, _, _, _ => none
  | k + 1, x0, x1, x2, x7, x8, x42 => if x42 = true then (some false) else ((bits_Down_uint16.f (IntKind.u16.wrap (x0)) (IntKind.u16.wrap (x1))).bind fun bt128 => ((croftref1_Down.f k x7 x8 x2).bind fun bt130 => (if (IntKind.u64.wrap (bt128.1)) = bt130.1 then (some (bt128.2 == bt130.2)) else (some false))))
def croftlaw1_multiples_uint16.f (k : Nat) (a0 : Int) (a1 : Int) (a2 : Int) : Option (Bool) := (croftref1_Cut.f a0 a2).bind fun t122 => ((croftref1_Cut.f a1 a2).bind fun t123 => ((bits_Up_uint16.f k (IntKind.u16.wrap (a0)) (IntKind.u16.wrap (a1))).bind fun bt124 => ((croftref1_Up.f k t122 t123 a2).bind fun bt126 => (if (IntKind.u64.wrap (bt124.1)) = bt126.1 then (croftlaw1_multiples_uint16.j0 k a0 a1 a2 t122 t123 (bt124.2 != bt126.2)) else (croftlaw1_multiples_uint16.j0 k a0 a1 a2 t122 t123 true)))))
theorem croftlaw1_multiples_uint16.mono_l : ∀ k, (∀ y0 y1 y2 y3 y4 y5, LeO (croftlaw1_multiples_uint16.j0 k y0 y1 y2 y3 y4 y5) (croftlaw1_multiples_uint16.j0 (k + 1) y0 y1 y2 y3 y4 y5))
  | 0 => fun _ _ _ _ _ _ r h => by simp [croftlaw1_multiples_uint16.j0] at h
  | k + 1 => by
    have ih0 := croftlaw1_multiples_uint16.mono_l k
    · intro y0 y1 y2 y3 y4 y5
      unfold croftlaw1_multiples_uint16.j0
      repeat' first
      | (with_reducible exact ih0 _ _ _ _ _ _)
      | (with_reducible exact bits_Up_uint16.mono _ _ _)
      | (with_reducible exact croftref1_Down.mono _ _ _ _)
      | (with_reducible exact croftref1_Up.mono _ _ _ _)
      | (with_reducible exact LeO.refl _)
      | (with_reducible exact LeO.none _)
      | (with_reducible refine LeO.ite ?_ ?_)
      | (with_reducible refine LeO.bind ?_ (fun _ => ?_))
      | exact ih0 _ _ _ _ _ _
      | exact bits_Up_uint16.mono _ _ _
      | exact croftref1_Down.mono _ _ _ _
      | exact croftref1_Up.mono _ _ _ _
      | exact LeO.none _
      | refine LeO.ite ?_ ?_
      | refine LeO.bind ?_ (fun _ => ?_)
theorem croftlaw1_multiples_uint16.mono : ∀ a0 a1 a2 k, LeO (croftlaw1_multiples_uint16.f k a0 a1 a2) (croftlaw1_multiples_uint16.f (k + 1) a0 a1 a2) := by
  intro a0 a1 a2 k
  have ih0 := croftlaw1_multiples_uint16.mono_l k
  unfold croftlaw1_multiples_uint16.f
  repeat' first
      | (with_reducible exact ih0 _ _ _ _ _ _)
      | (with_reducible exact bits_Up_uint16.mono _ _ _)
      | (with_reducible exact croftref1_Down.mono _ _ _ _)
      | (with_reducible exact croftref1_Up.mono _ _ _ _)
      | (with_reducible exact LeO.refl _)
      | (with_reducible exact LeO.none _)
      | (with_reducible refine LeO.ite ?_ ?_)
      | (with_reducible refine LeO.bind ?_ (fun _ => ?_))
      | exact ih0 _ _ _ _ _ _
      | exact bits_Up_uint16.mono _ _ _
      | exact croftref1_Down.mono _ _ _ _
      | exact croftref1_Up.mono _ _ _ _
      | exact LeO.none _
      | refine LeO.ite ?_ ?_
      | refine LeO.bind ?_ (fun _ => ?_)
set_option maxHeartbeats 8000000 in
set_option maxRecDepth 100000 in
theorem croftlaw1_multiples_uint16.calls (k : Nat) (a0 : Int) (a1 : Int) (a2 : Int) (r : Bool) (w : World) (h : croftlaw1_multiples_uint16.f k a0 a1 a2 = some r) :
    Calls Try.prog 11 #[.int .u64 a0, .int .u64 a1, .int .i64 a2] w fun e w' => e = .returned (.bool r) ∧ Drawn0 w w' := by
  have H : ((croftref1_Cut.f a0 a2).bind fun t122 => ((croftref1_Cut.f a1 a2).bind fun t123 => ((bits_Up_uint16.f k (IntKind.u16.wrap (a0)) (IntKind.u16.wrap (a1))).bind fun bt124 => ((croftref1_Up.f k t122 t123 a2).bind fun bt126 => (if (IntKind.u64.wrap (bt124.1)) = bt126.1 then (croftlaw1_multiples_uint16.j0 k a0 a1 a2 t122 t123 (bt124.2 != bt126.2)) else (croftlaw1_multiples_uint16.j0 k a0 a1 a2 t122 t123 true)))))) = some r := h
  clear h
  replace H := Option.bind_eq_some_iff.mp H
  obtain ⟨t122, A40, H⟩ := H
  replace H : ((croftref1_Cut.f a1 a2).bind fun t123 => ((bits_Up_uint16.f k (IntKind.u16.wrap (a0)) (IntKind.u16.wrap (a1))).bind fun bt124 => ((croftref1_Up.f k t122 t123 a2).bind fun bt126 => (if (IntKind.u64.wrap (bt124.1)) = bt126.1 then (croftlaw1_multiples_uint16.j0 k a0 a1 a2 t122 t123 (bt124.2 != bt126.2)) else (croftlaw1_multiples_uint16.j0 k a0 a1 a2 t122 t123 true))))) = some r := H
  have A4 := Aside0.mk A40
  clear A40
  replace H := Option.bind_eq_some_iff.mp H
  obtain ⟨t123, A50, H⟩ := H
  replace H : ((bits_Up_uint16.f k (IntKind.u16.wrap (a0)) (IntKind.u16.wrap (a1))).bind fun bt124 => ((croftref1_Up.f k t122 t123 a2).bind fun bt126 => (if (IntKind.u64.wrap (bt124.1)) = bt126.1 then (croftlaw1_multiples_uint16.j0 k a0 a1 a2 t122 t123 (bt124.2 != bt126.2)) else (croftlaw1_multiples_uint16.j0 k a0 a1 a2 t122 t123 true)))) = some r := H
  have A5 := Aside0.mk A50
  clear A50
  replace H := Option.bind_eq_some_iff.mp H
  obtain ⟨⟨t124, t125⟩, A60, H⟩ := H
  replace H : ((croftref1_Up.f k t122 t123 a2).bind fun bt126 => (if (IntKind.u64.wrap (t124)) = bt126.1 then (croftlaw1_multiples_uint16.j0 k a0 a1 a2 t122 t123 (t125 != bt126.2)) else (croftlaw1_multiples_uint16.j0 k a0 a1 a2 t122 t123 true))) = some r := H
  have A6 := Aside0.mk A60
  clear A60
  replace H := Option.bind_eq_some_iff.mp H
  obtain ⟨⟨t126, t127⟩, A70, H⟩ := H
  replace H : (if (IntKind.u64.wrap (t124)) = t126 then (croftlaw1_multiples_uint16.j0 k a0 a1 a2 t122 t123 (t125 != t127)) else (croftlaw1_multiples_uint16.j0 k a0 a1 a2 t122 t123 true)) = some r := H
  have A7 := Aside0.mk A70
  clear A70
  have HC8 := Aside0.mk H
  clear H
  go_enter Try.func11, Try.ntmps11
  go_upto_region 5 with (first | ((with_reducible refine gate_callee (f := 52) rfl ?_); refine goesL_ (some 15) rfl rfl Try.func52 (by kernel_rfl) rfl #[.int .u64 a0, .int .i64 a2] rfl (by (try simp only [List.map_toArray, List.map_cons, List.map_nil]); first | done | rfl | (simp only [List.length_drop, List.length_take]; rfl)) ?_; (with_reducible refine (croftref1_Cut.calls a0 a2 t122 _ A4.out).mono ?_); rintro e w' ⟨rfl, ⟨nd, rfl⟩⟩; refine ⟨_, rfl, ?_⟩) | ((with_reducible refine gate_callee (f := 52) rfl ?_); refine goesL_ (some 18) rfl rfl Try.func52 (by kernel_rfl) rfl #[.int .u64 a1, .int .i64 a2] rfl (by (try simp only [List.map_toArray, List.map_cons, List.map_nil]); first | done | rfl | (simp only [List.length_drop, List.length_take]; rfl)) ?_; (with_reducible refine (croftref1_Cut.calls a1 a2 t123 _ A5.out).mono ?_); rintro e w' ⟨rfl, ⟨nd, rfl⟩⟩; refine ⟨_, rfl, ?_⟩) | ((with_reducible refine gate_callee (f := 50) rfl ?_); refine goesL_ (some 24) rfl rfl Try.func50 (by kernel_rfl) rfl #[.int .u16 (IntKind.u16.wrap (a0)), .int .u16 (IntKind.u16.wrap (a1))] rfl (by (try simp only [List.map_toArray, List.map_cons, List.map_nil]); first | done | rfl | (simp only [List.length_drop, List.length_take]; rfl)) ?_; (with_reducible refine (bits_Up_uint16.calls k (IntKind.u16.wrap (a0)) (IntKind.u16.wrap (a1)) t124 t125 _ A6.out).mono ?_); rintro e w' ⟨rfl, ⟨nd, rfl⟩⟩; refine ⟨_, rfl, ?_⟩) | ((with_reducible refine gate_callee (f := 53) rfl ?_); refine goesL_ (some 31) rfl rfl Try.func53 (by kernel_rfl) rfl #[.int .u64 t122, .int .u64 t123, .int .i64 a2] rfl (by (try simp only [List.map_toArray, List.map_cons, List.map_nil]); first | done | rfl | (simp only [List.length_drop, List.length_take]; rfl)) ?_; (with_reducible refine (croftref1_Up.calls k t122 t123 a2 t126 t127 _ A7.out).mono ?_); rintro e w' ⟨rfl, ⟨nd, rfl⟩⟩; refine ⟨_, rfl, ?_⟩))
  (try simp only [Act.put, List.setIfInBounds_toArray, List.set_cons_zero, List.set_cons_succ])
  go_cut [42] (fun v42 wc => ∃ (kq : Nat) (x42_7 : Bool), v42 = .bool x42_7 ∧ Aside0 (croftlaw1_multiples_uint16.j0 kq a0 a1 a2 t122 t123 x42_7 = some r) ∧ Aside0 (kq ≤ k) ∧ Drawn0 w wc)
  case first =>
    have H := HC8.out
    clear HC8
    by_cases c9 : (IntKind.u64.wrap (t124)) = t126
    · rw [if_pos c9] at H
      have c9b0 : ((IntKind.u64.wrap (t124)) == t126) = true := beq_iff_eq.mpr c9
      have c9b1 : ((IntKind.u64.wrap (t124)) != t126) = false := bne_eq_false_iff_eq.mpr c9
      clear c9
      (first | rw [c9b0] | (simp only [i64_w, i32_w]; rw [c9b0]) | skip)
      have H' := Aside0.mk H
      clear H
      go_wp2
      go_meet
      case rel => exact ⟨_, ((t125 != t127)), (by first | rfl | (simp; done) | (simp [*]; done)), H', ⟨by first | omega | exact Nat.le_refl _⟩, by repeat (first | exact Drawn0.refl _ | apply Drawn0.step)⟩
    · rw [if_neg c9] at H
      have c9b0 : ((IntKind.u64.wrap (t124)) == t126) = false := beq_eq_false_iff_ne.mpr c9
      have c9b1 : ((IntKind.u64.wrap (t124)) != t126) = true := bne_iff_ne.mpr c9
      (first | rw [c9b0] | (simp only [i64_w, i32_w]; rw [c9b0]) | skip)
      have H' := Aside0.mk H
      clear H
      go_wp2
      go_meet
      case rel => exact ⟨_, (true), (by first | rfl | (simp; done) | (simp [*]; done)), H', ⟨by first | omega | exact Nat.le_refl _⟩, by repeat (first | exact Drawn0.refl _ | apply Drawn0.step)⟩
  case rest =>
    clear HC8
    try clear c1
    try clear p2
    try clear c5
    try clear c9
    try clear c9b0
    try clear c9b1
    obtain ⟨kq, x42_7, rfl, HA, HJ7, ⟨mc7, rfl⟩⟩ := hcut
    cases kq with
    | zero => exact absurd HA.out (by simp [croftlaw1_multiples_uint16.j0])
    | succ kj7 =>
      have H := HA.out
      clear HA
      simp only [croftlaw1_multiples_uint16.j0] at H
      by_cases c10 : x42_7 = true
      · subst c10
        have H1 : (some false) = some r := by rw [if_pos rfl] at H; exact H
        clear H
        have H := H1
        clear H1
        obtain rfl := Option.some.inj H
        go_wp2
        go_ret
        exact ⟨by first | rfl | (simp; done) | (simp [*]; done), by repeat (first | exact Drawn0.refl _ | apply Drawn0.step)⟩
      · replace c10 := Bool.eq_false_iff.mpr c10
        subst c10
        have H1 : ((bits_Down_uint16.f (IntKind.u16.wrap (a0)) (IntKind.u16.wrap (a1))).bind fun bt128 => ((croftref1_Down.f kj7 t122 t123 a2).bind fun bt130 => (if (IntKind.u64.wrap (bt128.1)) = bt130.1 then (some (bt128.2 == bt130.2)) else (some false)))) = some r := by rw [if_neg (show ¬ (false = true) by decide)] at H; exact H
        clear H
        have H := H1
        clear H1
        replace H := Option.bind_eq_some_iff.mp H
        obtain ⟨⟨t128, t129⟩, A110, H⟩ := H
        replace H : ((croftref1_Down.f kj7 t122 t123 a2).bind fun bt130 => (if (IntKind.u64.wrap (t128)) = bt130.1 then (some (t129 == bt130.2)) else (some false))) = some r := H
        have A11 := Aside0.mk A110
        clear A110
        replace H := Option.bind_eq_some_iff.mp H
        obtain ⟨⟨t130, t131⟩, A120, H⟩ := H
        replace H : (if (IntKind.u64.wrap (t128)) = t130 then (some (t129 == t131)) else (some false)) = some r := H
        have A12 := Aside0.mk A120
        clear A120
        by_cases c13 : (IntKind.u64.wrap (t128)) = t130
        · rw [if_pos c13] at H
          have c13b0 : ((IntKind.u64.wrap (t128)) == t130) = true := beq_iff_eq.mpr c13
          have c13b1 : ((IntKind.u64.wrap (t128)) != t130) = false := bne_eq_false_iff_eq.mpr c13
          clear c13
          obtain rfl := Option.some.inj H
          go_wp2_with (first | ((with_reducible refine gate_callee (f := 56) rfl ?_); refine goesL_ (some 48) rfl rfl Try.func56 (by kernel_rfl) rfl #[.int .u16 (IntKind.u16.wrap (a0)), .int .u16 (IntKind.u16.wrap (a1))] rfl (by (try simp only [List.map_toArray, List.map_cons, List.map_nil]); first | done | rfl | (simp only [List.length_drop, List.length_take]; rfl)) ?_; (with_reducible refine (bits_Down_uint16.calls (IntKind.u16.wrap (a0)) (IntKind.u16.wrap (a1)) t128 t129 _ A11.out).mono ?_); rintro e w' ⟨rfl, ⟨nd, rfl⟩⟩; refine ⟨_, rfl, ?_⟩) | ((with_reducible refine gate_callee (f := 55) rfl ?_); refine goesL_ (some 55) rfl rfl Try.func55 (by kernel_rfl) rfl #[.int .u64 t122, .int .u64 t123, .int .i64 a2] rfl (by (try simp only [List.map_toArray, List.map_cons, List.map_nil]); first | done | rfl | (simp only [List.length_drop, List.length_take]; rfl)) ?_; (with_reducible refine (croftref1_Down.calls kj7 t122 t123 a2 t130 t131 _ A12.out).mono ?_); rintro e w' ⟨rfl, ⟨nd, rfl⟩⟩; refine ⟨_, rfl, ?_⟩))
          go_ret
          exact ⟨by first | rfl | (simp; done) | (simp [*]; done), by repeat (first | exact Drawn0.refl _ | apply Drawn0.step)⟩
        · rw [if_neg c13] at H
          have c13b0 : ((IntKind.u64.wrap (t128)) == t130) = false := beq_eq_false_iff_ne.mpr c13
          have c13b1 : ((IntKind.u64.wrap (t128)) != t130) = true := bne_iff_ne.mpr c13
          obtain rfl := Option.some.inj H
          go_wp2_with (first | ((with_reducible refine gate_callee (f := 56) rfl ?_); refine goesL_ (some 48) rfl rfl Try.func56 (by kernel_rfl) rfl #[.int .u16 (IntKind.u16.wrap (a0)), .int .u16 (IntKind.u16.wrap (a1))] rfl (by (try simp only [List.map_toArray, List.map_cons, List.map_nil]); first | done | rfl | (simp only [List.length_drop, List.length_take]; rfl)) ?_; (with_reducible refine (bits_Down_uint16.calls (IntKind.u16.wrap (a0)) (IntKind.u16.wrap (a1)) t128 t129 _ A11.out).mono ?_); rintro e w' ⟨rfl, ⟨nd, rfl⟩⟩; refine ⟨_, rfl, ?_⟩) | ((with_reducible refine gate_callee (f := 55) rfl ?_); refine goesL_ (some 55) rfl rfl Try.func55 (by kernel_rfl) rfl #[.int .u64 t122, .int .u64 t123, .int .i64 a2] rfl (by (try simp only [List.map_toArray, List.map_cons, List.map_nil]); first | done | rfl | (simp only [List.length_drop, List.length_take]; rfl)) ?_; (with_reducible refine (croftref1_Down.calls kj7 t122 t123 a2 t130 t131 _ A12.out).mono ?_); rintro e w' ⟨rfl, ⟨nd, rfl⟩⟩; refine ⟨_, rfl, ?_⟩))
          go_ret
          exact ⟨by first | rfl | (simp; done) | (simp [*]; done), by repeat (first | exact Drawn0.refl _ | apply Drawn0.step)⟩

/-! ### bits_IsPower_uint32: function 39 -/
def bits_IsPower_uint32.f (a0 : Int) : Option (Bool) := if a0 = 0 then (some false) else (some ((Go.bits .and .u32 a0 ((a0 - 1) % 4294967296)) == 0))
set_option maxHeartbeats 8000000 in
set_option maxRecDepth 100000 in
theorem bits_IsPower_uint32.calls (a0 : Int) (r : Bool) (w : World) (h : bits_IsPower_uint32.f a0 = some r) :
    Calls Try.prog 39 #[.int .u32 a0] w fun e w' => e = .returned (.bool r) ∧ Drawn0 w w' := by
  have H : (if a0 = 0 then (some false) else (some ((Go.bits .and .u32 a0 ((a0 - 1) % 4294967296)) == 0))) = some r := h
  clear h
  by_cases c2 : a0 = 0
  · rw [if_pos c2] at H
    have c2b0 : (a0 == 0) = true := beq_iff_eq.mpr c2
    have c2b1 : (a0 != 0) = false := bne_eq_false_iff_eq.mpr c2
    clear c2
    obtain rfl := Option.some.inj H
    go_enter Try.func39, Try.ntmps39
    go_wp2
    go_ret
    exact ⟨by first | rfl | (simp; done) | (simp [*]; done), by repeat (first | exact Drawn0.refl _ | apply Drawn0.step)⟩
  · rw [if_neg c2] at H
    have c2b0 : (a0 == 0) = false := beq_eq_false_iff_ne.mpr c2
    have c2b1 : (a0 != 0) = true := bne_iff_ne.mpr c2
    obtain rfl := Option.some.inj H
    go_enter Try.func39, Try.ntmps39
    go_wp2
    go_ret
    exact ⟨by first | rfl | (simp; done) | (simp [*]; done), by repeat (first | exact Drawn0.refl _ | apply Drawn0.step)⟩

/-! ### bits_Down_uint32: function 51 -/
def bits_Down_uint32.f (a0 : Int) (a1 : Int) : Option (Int × Bool) := (bits_IsPower_uint32.f a1).bind fun t132 => (if t132 = true then (some (Go.bits .andNot .u32 a0 ((a1 - 1) % 4294967296), true)) else (some (0, false)))
set_option maxHeartbeats 8000000 in
set_option maxRecDepth 100000 in
theorem bits_Down_uint32.calls (a0 : Int) (a1 : Int) (r1 : Int) (r2 : Bool) (w : World) (h : bits_Down_uint32.f a0 a1 = some (r1, r2)) :
    Calls Try.prog 51 #[.int .u32 a0, .int .u32 a1] w fun e w' => e = .returned (.tuple #[.int .u32 r1, .bool r2]) ∧ Drawn0 w w' := by
  have H : ((bits_IsPower_uint32.f a1).bind fun t132 => (if t132 = true then (some (Go.bits .andNot .u32 a0 ((a1 - 1) % 4294967296), true)) else (some (0, false)))) = some (r1, r2) := h
  clear h
  replace H := Option.bind_eq_some_iff.mp H
  obtain ⟨t132, A30, H⟩ := H
  replace H : (if t132 = true then (some (Go.bits .andNot .u32 a0 ((a1 - 1) % 4294967296), true)) else (some (0, false))) = some (r1, r2) := H
  have A3 := Aside0.mk A30
  clear A30
  by_cases c4 : t132 = true
  · subst c4
    have H1 : (some (Go.bits .andNot .u32 a0 ((a1 - 1) % 4294967296), true)) = some (r1, r2) := by rw [if_pos rfl] at H; exact H
    clear H
    have H := H1
    clear H1
    simp only [Option.some.injEq, Prod.mk.injEq] at H
    obtain ⟨rfl, rfl⟩ := H
    go_enter Try.func51, Try.ntmps51
    go_wp2_with (first | ((with_reducible refine gate_callee (f := 39) rfl ?_); refine goesL_ (some 7) rfl rfl Try.func39 (by kernel_rfl) rfl #[.int .u32 a1] rfl (by (try simp only [List.map_toArray, List.map_cons, List.map_nil]); first | done | rfl | (simp only [List.length_drop, List.length_take]; rfl)) ?_; (with_reducible refine (bits_IsPower_uint32.calls a1 true _ A3.out).mono ?_); rintro e w' ⟨rfl, ⟨nd, rfl⟩⟩; refine ⟨_, rfl, ?_⟩))
    go_ret2
    exact ⟨by first | rfl | (simp; done) | (simp [*]; done), by repeat (first | exact Drawn0.refl _ | apply Drawn0.step)⟩
  · replace c4 := Bool.eq_false_iff.mpr c4
    subst c4
    have H1 : (some (0, false)) = some (r1, r2) := by rw [if_neg (show ¬ (false = true) by decide)] at H; exact H
    clear H
    have H := H1
    clear H1
    simp only [Option.some.injEq, Prod.mk.injEq] at H
    obtain ⟨rfl, rfl⟩ := H
    go_enter Try.func51, Try.ntmps51
    go_wp2_with (first | ((with_reducible refine gate_callee (f := 39) rfl ?_); refine goesL_ (some 7) rfl rfl Try.func39 (by kernel_rfl) rfl #[.int .u32 a1] rfl (by (try simp only [List.map_toArray, List.map_cons, List.map_nil]); first | done | rfl | (simp only [List.length_drop, List.length_take]; rfl)) ?_; (with_reducible refine (bits_IsPower_uint32.calls a1 false _ A3.out).mono ?_); rintro e w' ⟨rfl, ⟨nd, rfl⟩⟩; refine ⟨_, rfl, ?_⟩))
    go_ret2
    exact ⟨by first | rfl | (simp; done) | (simp [*]; done), by repeat (first | exact Drawn0.refl _ | apply Drawn0.step)⟩

/-! ### bits_Up_uint32: function 57 -/
def bits_Up_uint32.j0 : Nat → Int → Int → Bool → Bool → Option (Int × Bool)
  | 0, _, _, _, _ => none
  | k + 1, x1, x6, x7, x20 => if x20 = true then (some (x6, x7)) else (if ((x6 + x1) % 4294967296) = 0 then (some (0, false)) else (some ((x6 + x1) % 4294967296, true)))
def bits_Up_uint32.f (k : Nat) (a0 : Int) (a1 : Int) : Option (Int × Bool) := (bits_Down_uint32.f a0 a1).bind fun bt133 => (if bt133.2 = true then (bits_Up_uint32.j0 k a1 bt133.1 bt133.2 (bt133.1 == a0)) else (bits_Up_uint32.j0 k a1 bt133.1 bt133.2 true))
theorem bits_Up_uint32.mono_l : ∀ k, (∀ y0 y1 y2 y3, LeO (bits_Up_uint32.j0 k y0 y1 y2 y3) (bits_Up_uint32.j0 (k + 1) y0 y1 y2 y3))
  | 0 => fun _ _ _ _ r h => by simp [bits_Up_uint32.j0] at h
  | k + 1 => by
    have ih0 := bits_Up_uint32.mono_l k
    · intro y0 y1 y2 y3
      unfold bits_Up_uint32.j0
      repeat' first
      | (with_reducible exact ih0 _ _ _ _)
      | (with_reducible exact LeO.refl _)
      | (with_reducible exact LeO.none _)
      | (with_reducible refine LeO.ite ?_ ?_)
      | (with_reducible refine LeO.bind ?_ (fun _ => ?_))
      | exact ih0 _ _ _ _
      | exact LeO.none _
      | refine LeO.ite ?_ ?_
      | refine LeO.bind ?_ (fun _ => ?_)
theorem bits_Up_uint32.mono : ∀ a0 a1 k, LeO (bits_Up_uint32.f k a0 a1) (bits_Up_uint32.f (k + 1) a0 a1) := by
  intro a0 a1 k
  have ih0 := bits_Up_uint32.mono_l k
  unfold bits_Up_uint32.f
  repeat' first
      | (with_reducible exact ih0 _ _ _ _)
      | (with_reducible exact LeO.refl _)
      | (with_reducible exact LeO.none _)
      | (with_reducible refine LeO.ite ?_ ?_)
      | (with_reducible refine LeO.bind ?_ (fun _ => ?_))
      | exact ih0 _ _ _ _
      | exact LeO.none _
      | refine LeO.ite ?_ ?_
      | refine LeO.bind ?_ (fun _ => ?_)
set_option maxHeartbeats 8000000 in
set_option maxRecDepth 100000 in
theorem bits_Up_uint32.calls (k : Nat) (a0 : Int) (a1 : Int) (r1 : Int) (r2 : Bool) (w : World) (h : bits_Up_uint32.f k a0 a1 = some (r1, r2)) :
    Calls Try.prog 57 #[.int .u32 a0, .int .u32 a1] w fun e w' => e = .returned (.tuple #[.int .u32 r1, .bool r2]) ∧ Drawn0 w w' := by
  have H : ((bits_Down_uint32.f a0 a1).bind fun bt133 => (if bt133.2 = true then (bits_Up_uint32.j0 k a1 bt133.1 bt133.2 (bt133.1 == a0)) else (bits_Up_uint32.j0 k a1 bt133.1 bt133.2 true))) = some (r1, r2) := h
  clear h
  replace H := Option.bind_eq_some_iff.mp H
  obtain ⟨⟨t133, t134⟩, A30, H⟩ := H
  replace H : (if t134 = true then (bits_Up_uint32.j0 k a1 t133 t134 (t133 == a0)) else (bits_Up_uint32.j0 k a1 t133 t134 true)) = some (r1, r2) := H
  have A3 := Aside0.mk A30
  clear A30
  have HC4 := Aside0.mk H
  clear H
  go_enter Try.func57, Try.ntmps57
  go_upto_region 2 with (first | ((with_reducible refine gate_callee (f := 51) rfl ?_); refine goesL_ (some 11) rfl rfl Try.func51 (by kernel_rfl) rfl #[.int .u32 a0, .int .u32 a1] rfl (by (try simp only [List.map_toArray, List.map_cons, List.map_nil]); first | done | rfl | (simp only [List.length_drop, List.length_take]; rfl)) ?_; (with_reducible refine (bits_Down_uint32.calls a0 a1 t133 t134 _ A3.out).mono ?_); rintro e w' ⟨rfl, ⟨nd, rfl⟩⟩; refine ⟨_, rfl, ?_⟩))
  (try simp only [Act.put, List.setIfInBounds_toArray, List.set_cons_zero, List.set_cons_succ])
  go_cut [20] (fun v20 wc => ∃ (kq : Nat) (x20_3 : Bool), v20 = .bool x20_3 ∧ Aside0 (bits_Up_uint32.j0 kq a1 t133 t134 x20_3 = some (r1, r2)) ∧ Aside0 (kq ≤ k) ∧ Drawn0 w wc)
  case first =>
    have H := HC4.out
    clear HC4
    by_cases c5 : t134 = true
    · subst c5
      have H1 : (bits_Up_uint32.j0 k a1 t133 true (t133 == a0)) = some (r1, r2) := by rw [if_pos rfl] at H; exact H
      clear H
      have H := H1
      clear H1
      have H' := Aside0.mk H
      clear H
      go_wp2
      go_meet
      case rel => exact ⟨_, ((t133 == a0)), (by first | rfl | (simp; done) | (simp [*]; done)), H', ⟨by first | omega | exact Nat.le_refl _⟩, by repeat (first | exact Drawn0.refl _ | apply Drawn0.step)⟩
    · replace c5 := Bool.eq_false_iff.mpr c5
      subst c5
      have H1 : (bits_Up_uint32.j0 k a1 t133 false true) = some (r1, r2) := by rw [if_neg (show ¬ (false = true) by decide)] at H; exact H
      clear H
      have H := H1
      clear H1
      have H' := Aside0.mk H
      clear H
      go_wp2
      go_meet
      case rel => exact ⟨_, (true), (by first | rfl | (simp; done) | (simp [*]; done)), H', ⟨by first | omega | exact Nat.le_refl _⟩, by repeat (first | exact Drawn0.refl _ | apply Drawn0.step)⟩
  case rest =>
    clear HC4
    try clear p2
    try clear c5
    obtain ⟨kq, x20_3, rfl, HA, HJ3, ⟨mc3, rfl⟩⟩ := hcut
    cases kq with
    | zero => exact absurd HA.out (by simp [bits_Up_uint32.j0])
    | succ kj3 =>
      have H := HA.out
      clear HA
      simp only [bits_Up_uint32.j0] at H
      by_cases c6 : x20_3 = true
      · subst c6
        have H1 : (some (t133, t134)) = some (r1, r2) := by rw [if_pos rfl] at H; exact H
        clear H
        have H := H1
        clear H1
        simp only [Option.some.injEq, Prod.mk.injEq] at H
        obtain ⟨rfl, rfl⟩ := H
        go_wp2
        go_ret2
        exact ⟨by first | rfl | (simp; done) | (simp [*]; done), by repeat (first | exact Drawn0.refl _ | apply Drawn0.step)⟩
      · replace c6 := Bool.eq_false_iff.mpr c6
        subst c6
        have H1 : (if ((t133 + a1) % 4294967296) = 0 then (some (0, false)) else (some ((t133 + a1) % 4294967296, true))) = some (r1, r2) := by rw [if_neg (show ¬ (false = true) by decide)] at H; exact H
        clear H
        have H := H1
        clear H1
        by_cases c7 : ((t133 + a1) % 4294967296) = 0
        · rw [if_pos c7] at H
          have c7b0 : (((t133 + a1) % 4294967296) == 0) = true := beq_iff_eq.mpr c7
          have c7b1 : (((t133 + a1) % 4294967296) != 0) = false := bne_eq_false_iff_eq.mpr c7
          clear c7
          simp only [Option.some.injEq, Prod.mk.injEq] at H
          obtain ⟨rfl, rfl⟩ := H
          go_wp2
          go_ret2
          exact ⟨by first | rfl | (simp; done) | (simp [*]; done), by repeat (first | exact Drawn0.refl _ | apply Drawn0.step)⟩
        · rw [if_neg c7] at H
          have c7b0 : (((t133 + a1) % 4294967296) == 0) = false := beq_eq_false_iff_ne.mpr c7
          have c7b1 : (((t133 + a1) % 4294967296) != 0) = true := bne_iff_ne.mpr c7
          simp only [Option.some.injEq, Prod.mk.injEq] at H
          obtain ⟨rfl, rfl⟩ := H
          go_wp2
          go_ret2
          exact ⟨by first | rfl | (simp; done) | (simp [*]; done), by repeat (first | exact Drawn0.refl _ | apply Drawn0.step)⟩

/-! ### croftlaw1_multiples_uint32: function 12 -/
def croftlaw1_multiples_uint32.j0 : Nat → Int → Int → Int → Int → Int → Bool → Option (Bool)
  | 0, _, _, _, _, _, _ => none
  | k + 1, x0, x1, x2, x7, x8, x42 => if x42 = true then (some false) else ((bits_Down_uint32.f ((x0) % 4294967296) ((x1) % 4294967296)).bind fun bt141 => ((croftref1_Down.f k x7 x8 x2).bind fun bt143 => (if (IntKind.u64.wrap (bt141.1)) = bt143.1 then (some (bt141.2 == bt143.2)) else (some false))))
def croftlaw1_multiples_uint32.f (k : Nat) (a0 : Int) (a1 : Int) (a2 : Int) : Option (Bool) := (croftref1_Cut.f a0 a2).bind fun t135 => ((croftref1_Cut.f a1 a2).bind fun t136 => ((bits_Up_uint32.f k ((a0) % 4294967296) ((a1) % 4294967296)).bind fun bt137 => ((croftref1_Up.f k t135 t136 a2).bind fun bt139 => (if (IntKind.u64.wrap (bt137.1)) = bt139.1 then (croftlaw1_multiples_uint32.j0 k a0 a1 a2 t135 t136 (bt137.2 != bt139.2)) else (croftlaw1_multiples_uint32.j0 k a0 a1 a2 t135 t136 true)))))
theorem croftlaw1_multiples_uint32.mono_l : ∀ k, (∀ y0 y1 y2 y3 y4 y5, LeO (croftlaw1_multiples_uint32.j0 k y0 y1 y2 y3 y4 y5) (croftlaw1_multiples_uint32.j0 (k + 1) y0 y1 y2 y3 y4 y5))
  | 0 => fun _ _ _ _ _ _ r h => by simp [croftlaw1_multiples_uint32.j0] at h
  | k + 1 => by
    have ih0 := croftlaw1_multiples_uint32.mono_l k
    · intro y0 y1 y2 y3 y4 y5
      unfold croftlaw1_multiples_uint32.j0
      repeat' first
      | (with_reducible exact ih0 _ _ _ _ _ _)
      | (with_reducible exact bits_Up_uint32.mono _ _ _)
      | (with_reducible exact croftref1_Down.mono _ _ _ _)
      | (with_reducible exact croftref1_Up.mono _ _ _ _)
      | (with_reducible exact LeO.refl _)
      | (with_reducible exact LeO.none _)
      | (with_reducible refine LeO.ite ?_ ?_)
      | (with_reducible refine LeO.bind ?_ (fun _ => ?_))
      | exact ih0 _ _ _ _ _ _
      | exact bits_Up_uint32.mono _ _ _
      | exact croftref1_Down.mono _ _ _ _
      | exact croftref1_Up.mono _ _ _ _
      | exact LeO.none _
      | refine LeO.ite ?_ ?_
      | refine LeO.bind ?_ (fun _ => ?_)
theorem croftlaw1_multiples_uint32.mono : ∀ a0 a1 a2 k, LeO (croftlaw1_multiples_uint32.f k a0 a1 a2) (croftlaw1_multiples_uint32.f (k + 1) a0 a1 a2) := by
  intro a0 a1 a2 k
  have ih0 := croftlaw1_multiples_uint32.mono_l k
  unfold croftlaw1_multiples_uint32.f
  repeat' first
      | (with_reducible exact ih0 _ _ _ _ _ _)
      | (with_reducible exact bits_Up_uint32.mono _ _ _)
      | (with_reducible exact croftref1_Down.mono _ _ _ _)
      | (with_reducible exact croftref1_Up.mono _ _ _ _)
      | (with_reducible exact LeO.refl _)
      | (with_reducible exact LeO.none _)
      | (with_reducible refine LeO.ite ?_ ?_)
      | (with_reducible refine LeO.bind ?_ (fun _ => ?_))
      | exact ih0 _ _ _ _ _ _
      | exact bits_Up_uint32.mono _ _ _
      | exact croftref1_Down.mono _ _ _ _
      | exact croftref1_Up.mono _ _ _ _
      | exact LeO.none _
      | refine LeO.ite ?_ ?_
      | refine LeO.bind ?_ (fun _ => ?_)
set_option maxHeartbeats 8000000 in
set_option maxRecDepth 100000 in
theorem croftlaw1_multiples_uint32.calls (k : Nat) (a0 : Int) (a1 : Int) (a2 : Int) (r : Bool) (w : World) (h : croftlaw1_multiples_uint32.f k a0 a1 a2 = some r) :
    Calls Try.prog 12 #[.int .u64 a0, .int .u64 a1, .int .i64 a2] w fun e w' => e = .returned (.bool r) ∧ Drawn0 w w' := by
  have H : ((croftref1_Cut.f a0 a2).bind fun t135 => ((croftref1_Cut.f a1 a2).bind fun t136 => ((bits_Up_uint32.f k ((a0) % 4294967296) ((a1) % 4294967296)).bind fun bt137 => ((croftref1_Up.f k t135 t136 a2).bind fun bt139 => (if (IntKind.u64.wrap (bt137.1)) = bt139.1 then (croftlaw1_multiples_uint32.j0 k a0 a1 a2 t135 t136 (bt137.2 != bt139.2)) else (croftlaw1_multiples_uint32.j0 k a0 a1 a2 t135 t136 true)))))) = some r := h
  clear h
  replace H := Option.bind_eq_some_iff.mp H
  obtain ⟨t135, A40, H⟩ := H
  replace H : ((croftref1_Cut.f a1 a2).bind fun t136 => ((bits_Up_uint32.f k ((a0) % 4294967296) ((a1) % 4294967296)).bind fun bt137 => ((croftref1_Up.f k t135 t136 a2).bind fun bt139 => (if (IntKind.u64.wrap (bt137.1)) = bt139.1 then (croftlaw1_multiples_uint32.j0 k a0 a1 a2 t135 t136 (bt137.2 != bt139.2)) else (croftlaw1_multiples_uint32.j0 k a0 a1 a2 t135 t136 true))))) = some r := H
  have A4 := Aside0.mk A40
  clear A40
  replace H := Option.bind_eq_some_iff.mp H
  obtain ⟨t136, A50, H⟩ := H
  replace H : ((bits_Up_uint32.f k ((a0) % 4294967296) ((a1) % 4294967296)).bind fun bt137 => ((croftref1_Up.f k t135 t136 a2).bind fun bt139 => (if (IntKind.u64.wrap (bt137.1)) = bt139.1 then (croftlaw1_multiples_uint32.j0 k a0 a1 a2 t135 t136 (bt137.2 != bt139.2)) else (croftlaw1_multiples_uint32.j0 k a0 a1 a2 t135 t136 true)))) = some r := H
  have A5 := Aside0.mk A50
  clear A50
  replace H := Option.bind_eq_some_iff.mp H
  obtain ⟨⟨t137, t138⟩, A60, H⟩ := H
  replace H : ((croftref1_Up.f k t135 t136 a2).bind fun bt139 => (if (IntKind.u64.wrap (t137)) = bt139.1 then (croftlaw1_multiples_uint32.j0 k a0 a1 a2 t135 t136 (t138 != bt139.2)) else (croftlaw1_multiples_uint32.j0 k a0 a1 a2 t135 t136 true))) = some r := H
  have A6 := Aside0.mk A60
  clear A60
  replace H := Option.bind_eq_some_iff.mp H
  obtain ⟨⟨t139, t140⟩, A70, H⟩ := H
  replace H : (if (IntKind.u64.wrap (t137)) = t139 then (croftlaw1_multiples_uint32.j0 k a0 a1 a2 t135 t136 (t138 != t140)) else (croftlaw1_multiples_uint32.j0 k a0 a1 a2 t135 t136 true)) = some r := H
  have A7 := Aside0.mk A70
  clear A70
  have HC8 := Aside0.mk H
  clear H
  go_enter Try.func12, Try.ntmps12
  go_upto_region 5 with (first | ((with_reducible refine gate_callee (f := 52) rfl ?_); refine goesL_ (some 15) rfl rfl Try.func52 (by kernel_rfl) rfl #[.int .u64 a0, .int .i64 a2] rfl (by (try simp only [List.map_toArray, List.map_cons, List.map_nil]); first | done | rfl | (simp only [List.length_drop, List.length_take]; rfl)) ?_; (with_reducible refine (croftref1_Cut.calls a0 a2 t135 _ A4.out).mono ?_); rintro e w' ⟨rfl, ⟨nd, rfl⟩⟩; refine ⟨_, rfl, ?_⟩) | ((with_reducible refine gate_callee (f := 52) rfl ?_); refine goesL_ (some 18) rfl rfl Try.func52 (by kernel_rfl) rfl #[.int .u64 a1, .int .i64 a2] rfl (by (try simp only [List.map_toArray, List.map_cons, List.map_nil]); first | done | rfl | (simp only [List.length_drop, List.length_take]; rfl)) ?_; (with_reducible refine (croftref1_Cut.calls a1 a2 t136 _ A5.out).mono ?_); rintro e w' ⟨rfl, ⟨nd, rfl⟩⟩; refine ⟨_, rfl, ?_⟩) | ((with_reducible refine gate_callee (f := 57) rfl ?_); refine goesL_ (some 24) rfl rfl Try.func57 (by kernel_rfl) rfl #[.int .u32 ((a0) % 4294967296), .int .u32 ((a1) % 4294967296)] rfl (by (try simp only [List.map_toArray, List.map_cons, List.map_nil]); first | done | rfl | (simp only [List.length_drop, List.length_take]; rfl)) ?_; (with_reducible refine (bits_Up_uint32.calls k ((a0) % 4294967296) ((a1) % 4294967296) t137 t138 _ A6.out).mono ?_); rintro e w' ⟨rfl, ⟨nd, rfl⟩⟩; refine ⟨_, rfl, ?_⟩) | ((with_reducible refine gate_callee (f := 53) rfl ?_); refine goesL_ (some 31) rfl rfl Try.func53 (by kernel_rfl) rfl #[.int .u64 t135, .int .u64 t136, .int .i64 a2] rfl (by (try simp only [List.map_toArray, List.map_cons, List.map_nil]); first | done | rfl | (simp only [List.length_drop, List.length_take]; rfl)) ?_; (with_reducible refine (croftref1_Up.calls k t135 t136 a2 t139 t140 _ A7.out).mono ?_); rintro e w' ⟨rfl, ⟨nd, rfl⟩⟩; refine ⟨_, rfl, ?_⟩))
  (try simp only [Act.put, List.setIfInBounds_toArray, List.set_cons_zero, List.set_cons_succ])
  go_cut [42] (fun v42 wc => ∃ (kq : Nat) (x42_7 : Bool), v42 = .bool x42_7 ∧ Aside0 (croftlaw1_multiples_uint32.j0 kq a0 a1 a2 t135 t136 x42_7 = some r) ∧ Aside0 (kq ≤ k) ∧ Drawn0 w wc)
  case first =>
    have H := HC8.out
    clear HC8
    by_cases c9 : (IntKind.u64.wrap (t137)) = t139
    · rw [if_pos c9] at H
      have c9b0 : ((IntKind.u64.wrap (t137)) == t139) = true := beq_iff_eq.mpr c9
      have c9b1 : ((IntKind.u64.wrap (t137)) != t139) = false := bne_eq_false_iff_eq.mpr c9
      clear c9
      (first | rw [c9b0] | (simp only [i64_w, i32_w]; rw [c9b0]) | skip)
      have H' := Aside0.mk H
      clear H
      go_wp2
      go_meet
      case rel => exact ⟨_, ((t138 != t140)), (by first | rfl | (simp; done) | (simp [*]; done)), H', ⟨by first | omega | exact Nat.le_refl _⟩, by repeat (first | exact Drawn0.refl _ | apply Drawn0.step)⟩
    · rw [if_neg c9] at H
      have c9b0 : ((IntKind.u64.wrap (t137)) == t139) = false := beq_eq_false_iff_ne.mpr c9
      have c9b1 : ((IntKind.u64.wrap (t137)) != t139) = true := bne_iff_ne.mpr c9
      (first | rw [c9b0] | (simp only [i64_w, i32_w]; rw [c9b0]) | skip)
      have H' := Aside0.mk H
      clear H
      go_wp2
      go_meet
      case rel => exact ⟨_, (true), (by first | rfl | (simp; done) | (simp [*]; done)), H', ⟨by first | omega | exact Nat.le_refl _⟩, by repeat (first | exact Drawn0.refl _ | apply Drawn0.step)⟩
  case rest =>
    clear HC8
    try clear c1
    try clear p2
    try clear c5
    try clear c9
    try clear c9b0
    try clear c9b1
    obtain ⟨kq, x42_7, rfl, HA, HJ7, ⟨mc7, rfl⟩⟩ := hcut
    cases kq with
    | zero => exact absurd HA.out (by simp [croftlaw1_multiples_uint32.j0])
    | succ kj7 =>
      have H := HA.out
      clear HA
      simp only [croftlaw1_multiples_uint32.j0] at H
      by_cases c10 : x42_7 = true
      · subst c10
        have H1 : (some false) = some r := by rw [if_pos rfl] at H; exact H
        clear H
        have H := H1
        clear H1
        obtain rfl := Option.some.inj H
        go_wp2
        go_ret
        exact ⟨by first | rfl | (simp; done) | (simp [*]; done), by repeat (first | exact Drawn0.refl _ | apply Drawn0.step)⟩
      · replace c10 := Bool.eq_false_iff.mpr c10
        subst c10
        have H1 : ((bits_Down_uint32.f ((a0) % 4294967296) ((a1) % 4294967296)).bind fun bt141 => ((croftref1_Down.f kj7 t135 t136 a2).bind fun bt143 => (if (IntKind.u64.wrap (bt141.1)) = bt143.1 then (some (bt141.2 == bt143.2)) else (some false)))) = some r := by rw [if_neg (show ¬ (false = true) by decide)] at H; exact H
        clear H
        have H := H1
        clear H1
        replace H := Option.bind_eq_some_iff.mp H
        obtain ⟨⟨t141, t142⟩, A110, H⟩ := H
        replace H : ((croftref1_Down.f kj7 t135 t136 a2).bind fun bt143 => (if (IntKind.u64.wrap (t141)) = bt143.1 then (some (t142 == bt143.2)) else (some false))) = some r := H
        have A11 := Aside0.mk A110
        clear A110
        replace H := Option.bind_eq_some_iff.mp H
        obtain ⟨⟨t143, t144⟩, A120, H⟩ := H
        replace H : (if (IntKind.u64.wrap (t141)) = t143 then (some (t142 == t144)) else (some false)) = some r := H
        have A12 := Aside0.mk A120
        clear A120
        by_cases c13 : (IntKind.u64.wrap (t141)) = t143
        · rw [if_pos c13] at H
          have c13b0 : ((IntKind.u64.wrap (t141)) == t143) = true := beq_iff_eq.mpr c13
          have c13b1 : ((IntKind.u64.wrap (t141)) != t143) = false := bne_eq_false_iff_eq.mpr c13
          clear c13
          obtain rfl := Option.some.inj H
          go_wp2_with (first | ((with_reducible refine gate_callee (f := 51) rfl ?_); refine goesL_ (some 48) rfl rfl Try.func51 (by kernel_rfl) rfl #[.int .u32 ((a0) % 4294967296), .int .u32 ((a1) % 4294967296)] rfl (by (try simp only [List.map_toArray, List.map_cons, List.map_nil]); first | done | rfl | (simp only [List.length_drop, List.length_take]; rfl)) ?_; (with_reducible refine (bits_Down_uint32.calls ((a0) % 4294967296) ((a1) % 4294967296) t141 t142 _ A11.out).mono ?_); rintro e w' ⟨rfl, ⟨nd, rfl⟩⟩; refine ⟨_, rfl, ?_⟩) | ((with_reducible refine gate_callee (f := 55) rfl ?_); refine goesL_ (some 55) rfl rfl Try.func55 (by kernel_rfl) rfl #[.int .u64 t135, .int .u64 t136, .int .i64 a2] rfl (by (try simp only [List.map_toArray, List.map_cons, List.map_nil]); first | done | rfl | (simp only [List.length_drop, List.length_take]; rfl)) ?_; (with_reducible refine (croftref1_Down.calls kj7 t135 t136 a2 t143 t144 _ A12.out).mono ?_); rintro e w' ⟨rfl, ⟨nd, rfl⟩⟩; refine ⟨_, rfl, ?_⟩))
          go_ret
          exact ⟨by first | rfl | (simp; done) | (simp [*]; done), by repeat (first | exact Drawn0.refl _ | apply Drawn0.step)⟩
        · rw [if_neg c13] at H
          have c13b0 : ((IntKind.u64.wrap (t141)) == t143) = false := beq_eq_false_iff_ne.mpr c13
          have c13b1 : ((IntKind.u64.wrap (t141)) != t143) = true := bne_iff_ne.mpr c13
          obtain rfl := Option.some.inj H
          go_wp2_with (first | ((with_reducible refine gate_callee (f := 51) rfl ?_); refine goesL_ (some 48) rfl rfl Try.func51 (by kernel_rfl) rfl #[.int .u32 ((a0) % 4294967296), .int .u32 ((a1) % 4294967296)] rfl (by (try simp only [List.map_toArray, List.map_cons, List.map_nil]); first | done | rfl | (simp only [List.length_drop, List.length_take]; rfl)) ?_; (with_reducible refine (bits_Down_uint32.calls ((a0) % 4294967296) ((a1) % 4294967296) t141 t142 _ A11.out).mono ?_); rintro e w' ⟨rfl, ⟨nd, rfl⟩⟩; refine ⟨_, rfl, ?_⟩) | ((with_reducible refine gate_callee (f := 55) rfl ?_); refine goesL_ (some 55) rfl rfl Try.func55 (by kernel_rfl) rfl #[.int .u64 t135, .int .u64 t136, .int .i64 a2] rfl (by (try simp only [List.map_toArray, List.map_cons, List.map_nil]); first | done | rfl | (simp only [List.length_drop, List.length_take]; rfl)) ?_; (with_reducible refine (croftref1_Down.calls kj7 t135 t136 a2 t143 t144 _ A12.out).mono ?_); rintro e w' ⟨rfl, ⟨nd, rfl⟩⟩; refine ⟨_, rfl, ?_⟩))
          go_ret
          exact ⟨by first | rfl | (simp; done) | (simp [*]; done), by repeat (first | exact Drawn0.refl _ | apply Drawn0.step)⟩

/-! ### bits_IsPower_uint64: function 33 -/
def bits_IsPower_uint64.f (a0 : Int) : Option (Bool) := if a0 = 0 then (some false) else (some ((Go.bits .and .u64 a0 (IntKind.u64.wrap (a0 - 1))) == 0))
set_option maxHeartbeats 8000000 in
set_option maxRecDepth 100000 in
theorem bits_IsPower_uint64.calls (a0 : Int) (r : Bool) (w : World) (h : bits_IsPower_uint64.f a0 = some r) :
    Calls Try.prog 33 #[.int .u64 a0] w fun e w' => e = .returned (.bool r) ∧ Drawn0 w w' := by
  have H : (if a0 = 0 then (some false) else (some ((Go.bits .and .u64 a0 (IntKind.u64.wrap (a0 - 1))) == 0))) = some r := h
  clear h
  by_cases c2 : a0 = 0
  · rw [if_pos c2] at H
    have c2b0 : (a0 == 0) = true := beq_iff_eq.mpr c2
    have c2b1 : (a0 != 0) = false := bne_eq_false_iff_eq.mpr c2
    clear c2
    obtain rfl := Option.some.inj H
    go_enter Try.func33, Try.ntmps33
    go_wp2
    go_ret
    exact ⟨by first | rfl | (simp; done) | (simp [*]; done), by repeat (first | exact Drawn0.refl _ | apply Drawn0.step)⟩
  · rw [if_neg c2] at H
    have c2b0 : (a0 == 0) = false := beq_eq_false_iff_ne.mpr c2
    have c2b1 : (a0 != 0) = true := bne_iff_ne.mpr c2
    obtain rfl := Option.some.inj H
    go_enter Try.func33, Try.ntmps33
    go_wp2
    go_ret
    exact ⟨by first | rfl | (simp; done) | (simp [*]; done), by repeat (first | exact Drawn0.refl _ | apply Drawn0.step)⟩

/-! ### bits_Down_uint64: function 31 -/
def bits_Down_uint64.f (a0 : Int) (a1 : Int) : Option (Int × Bool) := (bits_IsPower_uint64.f a1).bind fun t145 => (if t145 = true then (some (Go.bits .andNot .u64 a0 (IntKind.u64.wrap (a1 - 1)), true)) else (some (0, false)))
set_option maxHeartbeats 8000000 in
set_option maxRecDepth 100000 in
theorem bits_Down_uint64.calls (a0 : Int) (a1 : Int) (r1 : Int) (r2 : Bool) (w : World) (h : bits_Down_uint64.f a0 a1 = some (r1, r2)) :
    Calls Try.prog 31 #[.int .u64 a0, .int .u64 a1] w fun e w' => e = .returned (.tuple #[.int .u64 r1, .bool r2]) ∧ Drawn0 w w' := by
  have H : ((bits_IsPower_uint64.f a1).bind fun t145 => (if t145 = true then (some (Go.bits .andNot .u64 a0 (IntKind.u64.wrap (a1 - 1)), true)) else (some (0, false)))) = some (r1, r2) := h
  clear h
  replace H := Option.bind_eq_some_iff.mp H
  obtain ⟨t145, A30, H⟩ := H
  replace H : (if t145 = true then (some (Go.bits .andNot .u64 a0 (IntKind.u64.wrap (a1 - 1)), true)) else (some (0, false))) = some (r1, r2) := H
  have A3 := Aside0.mk A30
  clear A30
  by_cases c4 : t145 = true
  · subst c4
    have H1 : (some (Go.bits .andNot .u64 a0 (IntKind.u64.wrap (a1 - 1)), true)) = some (r1, r2) := by rw [if_pos rfl] at H; exact H
    clear H
    have H := H1
    clear H1
    simp only [Option.some.injEq, Prod.mk.injEq] at H
    obtain ⟨rfl, rfl⟩ := H
    go_enter Try.func31, Try.ntmps31
    go_wp2_with (first | ((with_reducible refine gate_callee (f := 33) rfl ?_); refine goesL_ (some 7) rfl rfl Try.func33 (by kernel_rfl) rfl #[.int .u64 a1] rfl (by (try simp only [List.map_toArray, List.map_cons, List.map_nil]); first | done | rfl | (simp only [List.length_drop, List.length_take]; rfl)) ?_; (with_reducible refine (bits_IsPower_uint64.calls a1 true _ A3.out).mono ?_); rintro e w' ⟨rfl, ⟨nd, rfl⟩⟩; refine ⟨_, rfl, ?_⟩))
    go_ret2
    exact ⟨by first | rfl | (simp; done) | (simp [*]; done), by repeat (first | exact Drawn0.refl _ | apply Drawn0.step)⟩
  · replace c4 := Bool.eq_false_iff.mpr c4
    subst c4
    have H1 : (some (0, false)) = some (r1, r2) := by rw [if_neg (show ¬ (false = true) by decide)] at H; exact H
    clear H
    have H := H1
    clear H1
    simp only [Option.some.injEq, Prod.mk.injEq] at H
    obtain ⟨rfl, rfl⟩ := H
    go_enter Try.func31, Try.ntmps31
    go_wp2_with (first | ((with_reducible refine gate_callee (f := 33) rfl ?_); refine goesL_ (some 7) rfl rfl Try.func33 (by kernel_rfl) rfl #[.int .u64 a1] rfl (by (try simp only [List.map_toArray, List.map_cons, List.map_nil]); first | done | rfl | (simp only [List.length_drop, List.length_take]; rfl)) ?_; (with_reducible refine (bits_IsPower_uint64.calls a1 false _ A3.out).mono ?_); rintro e w' ⟨rfl, ⟨nd, rfl⟩⟩; refine ⟨_, rfl, ?_⟩))
    go_ret2
    exact ⟨by first | rfl | (simp; done) | (simp [*]; done), by repeat (first | exact Drawn0.refl _ | apply Drawn0.step)⟩

/-! ### bits_Up_uint64: function 32 -/
def bits_Up_uint64.j0 : Nat → Int → Int → Bool → Bool → Option (Int × Bool)
  | 0, _, _, _, _ => none
  | k + 1, x1, x6, x7, x20 => if x20 = true then (some (x6, x7)) else (if (IntKind.u64.wrap (x6 + x1)) = 0 then (some (0, false)) else (some (IntKind.u64.wrap (x6 + x1), true)))
def bits_Up_uint64.f (k : Nat) (a0 : Int) (a1 : Int) : Option (Int × Bool) := (bits_Down_uint64.f a0 a1).bind fun bt146 => (if bt146.2 = true then (bits_Up_uint64.j0 k a1 bt146.1 bt146.2 (bt146.1 == a0)) else (bits_Up_uint64.j0 k a1 bt146.1 bt146.2 true))
theorem bits_Up_uint64.mono_l : ∀ k, (∀ y0 y1 y2 y3, LeO (bits_Up_uint64.j0 k y0 y1 y2 y3) (bits_Up_uint64.j0 (k + 1) y0 y1 y2 y3))
  | 0 => fun _ _ _ _ r h => by simp [bits_Up_uint64.j0] at h
  | k + 1 => by
    have ih0 := bits_Up_uint64.mono_l k
    · intro y0 y1 y2 y3
      unfold bits_Up_uint64.j0
      repeat' first
      | (with_reducible exact ih0 _ _ _ _)
      | (with_reducible exact LeO.refl _)
      | (with_reducible exact LeO.none _)
      | (with_reducible refine LeO.ite ?_ ?_)
      | (with_reducible refine LeO.bind ?_ (fun _ => ?_))
      | exact ih0 _ _ _ _
      | exact LeO.none _
      | refine LeO.ite ?_ ?_
      | refine LeO.bind ?_ (fun _ => ?_)
theorem bits_Up_uint64.mono : ∀ a0 a1 k, LeO (bits_Up_uint64.f k a0 a1) (bits_Up_uint64.f (k + 1) a0 a1) := by
  intro a0 a1 k
  have ih0 := bits_Up_uint64.mono_l k
  unfold bits_Up_uint64.f
  repeat' first
      | (with_reducible exact ih0 _ _ _ _)
      | (with_reducible exact LeO.refl _)
      | (with_reducible exact LeO.none _)
      | (with_reducible refine LeO.ite ?_ ?_)
      | (with_reducible refine LeO.bind ?_ (fun _ => ?_))
      | exact ih0 _ _ _ _
      | exact LeO.none _
      | refine LeO.ite ?_ ?_
      | refine LeO.bind ?_ (fun _ => ?_)
set_option maxHeartbeats 8000000 in
set_option maxRecDepth 100000 in
theorem bits_Up_uint64.calls (k : Nat) (a0 : Int) (a1 : Int) (r1 : Int) (r2 : Bool) (w : World) (h : bits_Up_uint64.f k a0 a1 = some (r1, r2)) :
    Calls Try.prog 32 #[.int .u64 a0, .int .u64 a1] w fun e w' => e = .returned (.tuple #[.int .u64 r1, .bool r2]) ∧ Drawn0 w w' := by
  have H : ((bits_Down_uint64.f a0 a1).bind fun bt146 => (if bt146.2 = true then (bits_Up_uint64.j0 k a1 bt146.1 bt146.2 (bt146.1 == a0)) else (bits_Up_uint64.j0 k a1 bt146.1 bt146.2 true))) = some (r1, r2) := h
  clear h
  replace H := Option.bind_eq_some_iff.mp H
  obtain ⟨⟨t146, t147⟩, A30, H⟩ := H
  replace H : (if t147 = true then (bits_Up_uint64.j0 k a1 t146 t147 (t146 == a0)) else (bits_Up_uint64.j0 k a1 t146 t147 true)) = some (r1, r2) := H
  have A3 := Aside0.mk A30
  clear A30
  have HC4 := Aside0.mk H
  clear H
  go_enter Try.func32, Try.ntmps32
  go_upto_region 2 with (first | ((with_reducible refine gate_callee (f := 31) rfl ?_); refine goesL_ (some 11) rfl rfl Try.func31 (by kernel_rfl) rfl #[.int .u64 a0, .int .u64 a1] rfl (by (try simp only [List.map_toArray, List.map_cons, List.map_nil]); first | done | rfl | (simp only [List.length_drop, List.length_take]; rfl)) ?_; (with_reducible refine (bits_Down_uint64.calls a0 a1 t146 t147 _ A3.out).mono ?_); rintro e w' ⟨rfl, ⟨nd, rfl⟩⟩; refine ⟨_, rfl, ?_⟩))
  (try simp only [Act.put, List.setIfInBounds_toArray, List.set_cons_zero, List.set_cons_succ])
  go_cut [20] (fun v20 wc => ∃ (kq : Nat) (x20_3 : Bool), v20 = .bool x20_3 ∧ Aside0 (bits_Up_uint64.j0 kq a1 t146 t147 x20_3 = some (r1, r2)) ∧ Aside0 (kq ≤ k) ∧ Drawn0 w wc)
  case first =>
    have H := HC4.out
    clear HC4
    by_cases c5 : t147 = true
    · subst c5
      have H1 : (bits_Up_uint64.j0 k a1 t146 true (t146 == a0)) = some (r1, r2) := by rw [if_pos rfl] at H; exact H
      clear H
      have H := H1
      clear H1
      have H' := Aside0.mk H
      clear H
      go_wp2
      go_meet
      case rel => exact ⟨_, ((t146 == a0)), (by first | rfl | (simp; done) | (simp [*]; done)), H', ⟨by first | omega | exact Nat.le_refl _⟩, by repeat (first | exact Drawn0.refl _ | apply Drawn0.step)⟩
    · replace c5 := Bool.eq_false_iff.mpr c5
      subst c5
      have H1 : (bits_Up_uint64.j0 k a1 t146 false true) = some (r1, r2) := by rw [if_neg (show ¬ (false = true) by decide)] at H; exact H
      clear H
      have H := H1
      clear H1
      have H' := Aside0.mk H
      clear H
      go_wp2
      go_meet
      case rel => exact ⟨_, (true), (by first | rfl | (simp; done) | (simp [*]; done)), H', ⟨by first | omega | exact Nat.le_refl _⟩, by repeat (first | exact Drawn0.refl _ | apply Drawn0.step)⟩
  case rest =>
    clear HC4
    try clear p2
    try clear c3
    try clear c5
    obtain ⟨kq, x20_3, rfl, HA, HJ3, ⟨mc3, rfl⟩⟩ := hcut
    cases kq with
    | zero => exact absurd HA.out (by simp [bits_Up_uint64.j0])
    | succ kj3 =>
      have H := HA.out
      clear HA
      simp only [bits_Up_uint64.j0] at H
      by_cases c6 : x20_3 = true
      · subst c6
        have H1 : (some (t146, t147)) = some (r1, r2) := by rw [if_pos rfl] at H; exact H
        clear H
        have H := H1
        clear H1
        simp only [Option.some.injEq, Prod.mk.injEq] at H
        obtain ⟨rfl, rfl⟩ := H
        go_wp2
        go_ret2
        exact ⟨by first | rfl | (simp; done) | (simp [*]; done), by repeat (first | exact Drawn0.refl _ | apply Drawn0.step)⟩
      · replace c6 := Bool.eq_false_iff.mpr c6
        subst c6
        have H1 : (if (IntKind.u64.wrap (t146 + a1)) = 0 then (some (0, false)) else (some (IntKind.u64.wrap (t146 + a1), true))) = some (r1, r2) := by rw [if_neg (show ¬ (false = true) by decide)] at H; exact H
        clear H
        have H := H1
        clear H1
        by_cases c7 : (IntKind.u64.wrap (t146 + a1)) = 0
        · rw [if_pos c7] at H
          have c7b0 : ((IntKind.u64.wrap (t146 + a1)) == 0) = true := beq_iff_eq.mpr c7
          have c7b1 : ((IntKind.u64.wrap (t146 + a1)) != 0) = false := bne_eq_false_iff_eq.mpr c7
          clear c7
          simp only [Option.some.injEq, Prod.mk.injEq] at H
          obtain ⟨rfl, rfl⟩ := H
          go_wp2
          go_ret2
          exact ⟨by first | rfl | (simp; done) | (simp [*]; done), by repeat (first | exact Drawn0.refl _ | apply Drawn0.step)⟩
        · rw [if_neg c7] at H
          have c7b0 : ((IntKind.u64.wrap (t146 + a1)) == 0) = false := beq_eq_false_iff_ne.mpr c7
          have c7b1 : ((IntKind.u64.wrap (t146 + a1)) != 0) = true := bne_iff_ne.mpr c7
          simp only [Option.some.injEq, Prod.mk.injEq] at H
          obtain ⟨rfl, rfl⟩ := H
          go_wp2
          go_ret2
          exact ⟨by first | rfl | (simp; done) | (simp [*]; done), by repeat (first | exact Drawn0.refl _ | apply Drawn0.step)⟩

end Go.Proofs.Ytccpoflhmooanaa.PBitsMultiples
