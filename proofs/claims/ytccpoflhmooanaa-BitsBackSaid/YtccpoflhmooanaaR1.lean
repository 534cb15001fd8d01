import Derived.Test.YtccpoflhmooanaaR0
namespace Go.Proofs.Ytccpoflhmooanaa.R
open Go.RowKit Go.Proofs.YtccpoflhmooanaaW.PrintWords Go.Proofs.YtccpoflhmooanaaW.PrintLast Go.Proofs.YtccpoflhmooanaaW.PrintMore
attribute [local go_sem] max2_int min2_int max_two min_two max_three min_three max_four min_four
set_option linter.unusedVariables false
set_option linter.unusedSimpArgs false

/-! ### bits_IsPower_uint8: function 37 -/
def bits_IsPower_uint8.f (a0 : Int) : Option (Bool) := if a0 = 0 then (some false) else (some ((Go.bits .and .u8 a0 ((a0 - 1) % 256)) == 0))
set_option maxHeartbeats 8000000 in
set_option maxRecDepth 100000 in
theorem bits_IsPower_uint8.calls (a0 : Int) (r : Bool) (w : World) (h : bits_IsPower_uint8.f a0 = some r) :
    Calls Try.prog 37 #[.int .u8 a0] w fun e w' => e = .returned (.bool r) ∧ Drawn0 w w' := by
  have H : (if a0 = 0 then (some false) else (some ((Go.bits .and .u8 a0 ((a0 - 1) % 256)) == 0))) = some r := h
  clear h
  by_cases c2 : a0 = 0
  · rw [if_pos c2] at H
    have c2b0 : (a0 == 0) = true := beq_iff_eq.mpr c2
    have c2b1 : (a0 != 0) = false := bne_eq_false_iff_eq.mpr c2
    clear c2
    obtain rfl := Option.some.inj H
    go_enter Try.func37, Try.ntmps37
    go_wp2
    go_ret
    exact ⟨by first | rfl | (simp; done) | (simp [*]; done), by repeat (first | exact Drawn0.refl _ | apply Drawn0.step)⟩
  · rw [if_neg c2] at H
    have c2b0 : (a0 == 0) = false := beq_eq_false_iff_ne.mpr c2
    have c2b1 : (a0 != 0) = true := bne_iff_ne.mpr c2
    obtain rfl := Option.some.inj H
    go_enter Try.func37, Try.ntmps37
    go_wp2
    go_ret
    exact ⟨by first | rfl | (simp; done) | (simp [*]; done), by repeat (first | exact Drawn0.refl _ | apply Drawn0.step)⟩

/-! ### bits_Down_uint8: function 54 -/
def bits_Down_uint8.f (a0 : Int) (a1 : Int) : Option (Int × Bool) := (bits_IsPower_uint8.f a1).bind fun t101 => (if t101 = true then (some (Go.bits .andNot .u8 a0 ((a1 - 1) % 256), true)) else (some (0, false)))
set_option maxHeartbeats 8000000 in
set_option maxRecDepth 100000 in
theorem bits_Down_uint8.calls (a0 : Int) (a1 : Int) (r1 : Int) (r2 : Bool) (w : World) (h : bits_Down_uint8.f a0 a1 = some (r1, r2)) :
    Calls Try.prog 54 #[.int .u8 a0, .int .u8 a1] w fun e w' => e = .returned (.tuple #[.int .u8 r1, .bool r2]) ∧ Drawn0 w w' := by
  have H : ((bits_IsPower_uint8.f a1).bind fun t101 => (if t101 = true then (some (Go.bits .andNot .u8 a0 ((a1 - 1) % 256), true)) else (some (0, false)))) = some (r1, r2) := h
  clear h
  replace H := Option.bind_eq_some_iff.mp H
  obtain ⟨t101, A30, H⟩ := H
  replace H : (if t101 = true then (some (Go.bits .andNot .u8 a0 ((a1 - 1) % 256), true)) else (some (0, false))) = some (r1, r2) := H
  have A3 := Aside0.mk A30
  clear A30
  by_cases c4 : t101 = true
  · subst c4
    have H1 : (some (Go.bits .andNot .u8 a0 ((a1 - 1) % 256), true)) = some (r1, r2) := by rw [if_pos rfl] at H; exact H
    clear H
    have H := H1
    clear H1
    simp only [Option.some.injEq, Prod.mk.injEq] at H
    obtain ⟨rfl, rfl⟩ := H
    go_enter Try.func54, Try.ntmps54
    go_wp2_with (first | ((with_reducible refine gate_callee (f := 37) rfl ?_); refine goesL_ (some 7) rfl rfl Try.func37 (by kernel_rfl) rfl #[.int .u8 a1] rfl (by (try simp only [List.map_toArray, List.map_cons, List.map_nil]); first | done | rfl | (simp only [List.length_drop, List.length_take]; rfl)) ?_; (with_reducible refine (bits_IsPower_uint8.calls a1 true _ A3.out).mono ?_); rintro e w' ⟨rfl, ⟨nd, rfl⟩⟩; refine ⟨_, rfl, ?_⟩))
    go_ret2
    exact ⟨by first | rfl | (simp; done) | (simp [*]; done), by repeat (first | exact Drawn0.refl _ | apply Drawn0.step)⟩
  · replace c4 := Bool.eq_false_iff.mpr c4
    subst c4
    have H1 : (some (0, false)) = some (r1, r2) := by rw [if_neg (show ¬ (false = true) by decide)] at H; exact H
    clear H
    have H := H1
    clear H1
    simp only [Option.some.injEq, Prod.mk.injEq] at H
    obtain ⟨rfl, rfl⟩ := H
    go_enter Try.func54, Try.ntmps54
    go_wp2_with (first | ((with_reducible refine gate_callee (f := 37) rfl ?_); refine goesL_ (some 7) rfl rfl Try.func37 (by kernel_rfl) rfl #[.int .u8 a1] rfl (by (try simp only [List.map_toArray, List.map_cons, List.map_nil]); first | done | rfl | (simp only [List.length_drop, List.length_take]; rfl)) ?_; (with_reducible refine (bits_IsPower_uint8.calls a1 false _ A3.out).mono ?_); rintro e w' ⟨rfl, ⟨nd, rfl⟩⟩; refine ⟨_, rfl, ?_⟩))
    go_ret2
    exact ⟨by first | rfl | (simp; done) | (simp [*]; done), by repeat (first | exact Drawn0.refl _ | apply Drawn0.step)⟩

/-! ### bits_Up_uint8: function 49 -/
def bits_Up_uint8.j0 : Nat → Int → Int → Bool → Bool → Option (Int × Bool)
  | 0, _, _, _, _ => none
  | k + 1, x1, x6, x7, x20 => if x20 = true then (some (x6, x7)) else (if ((x6 + x1) % 256) = 0 then (some (0, false)) else (some ((x6 + x1) % 256, true)))
def bits_Up_uint8.f (k : Nat) (a0 : Int) (a1 : Int) : Option (Int × Bool) := (bits_Down_uint8.f a0 a1).bind fun bt102 => (if bt102.2 = true then (bits_Up_uint8.j0 k a1 bt102.1 bt102.2 (bt102.1 == a0)) else (bits_Up_uint8.j0 k a1 bt102.1 bt102.2 true))
theorem bits_Up_uint8.mono_l : ∀ k, (∀ y0 y1 y2 y3, LeO (bits_Up_uint8.j0 k y0 y1 y2 y3) (bits_Up_uint8.j0 (k + 1) y0 y1 y2 y3))
  | 0 => fun _ _ _ _ r h => by simp [bits_Up_uint8.j0] at h
  | k + 1 => by
    have ih0 := bits_Up_uint8.mono_l k
    · intro y0 y1 y2 y3
      unfold bits_Up_uint8.j0
      repeat' first
      | (with_reducible exact ih0 _ _ _ _)
      | (with_reducible exact LeO.refl _)
      | (with_reducible exact LeO.none _)
      | (with_reducible refine LeO.ite ?_ ?_)
      | (with_reducible refine LeO.bind ?_ (fun _ => ?_))
      | exact ih0 _ _ _ _
      | exact LeO.none _
      | refine LeO.ite ?_ ?_
      | refine LeO.bind ?_ (fun _ => ?_)
theorem bits_Up_uint8.mono : ∀ a0 a1 k, LeO (bits_Up_uint8.f k a0 a1) (bits_Up_uint8.f (k + 1) a0 a1) := by
  intro a0 a1 k
  have ih0 := bits_Up_uint8.mono_l k
  unfold bits_Up_uint8.f
  repeat' first
      | (with_reducible exact ih0 _ _ _ _)
      | (with_reducible exact LeO.refl _)
      | (with_reducible exact LeO.none _)
      | (with_reducible refine LeO.ite ?_ ?_)
      | (with_reducible refine LeO.bind ?_ (fun _ => ?_))
      | exact ih0 _ _ _ _
      | exact LeO.none _
      | refine LeO.ite ?_ ?_
      | refine LeO.bind ?_ (fun _ => ?_)
set_option maxHeartbeats 8000000 in
set_option maxRecDepth 100000 in
theorem bits_Up_uint8.calls (k : Nat) (a0 : Int) (a1 : Int) (r1 : Int) (r2 : Bool) (w : World) (h : bits_Up_uint8.f k a0 a1 = some (r1, r2)) :
    Calls Try.prog 49 #[.int .u8 a0, .int .u8 a1] w fun e w' => e = .returned (.tuple #[.int .u8 r1, .bool r2]) ∧ Drawn0 w w' := by
  have H : ((bits_Down_uint8.f a0 a1).bind fun bt102 => (if bt102.2 = true then (bits_Up_uint8.j0 k a1 bt102.1 bt102.2 (bt102.1 == a0)) else (bits_Up_uint8.j0 k a1 bt102.1 bt102.2 true))) = some (r1, r2) := h
  clear h
  replace H := Option.bind_eq_some_iff.mp H
  obtain ⟨⟨t102, t103⟩, A30, H⟩ := H
  replace H : (if t103 = true then (bits_Up_uint8.j0 k a1 t102 t103 (t102 == a0)) else (bits_Up_uint8.j0 k a1 t102 t103 true)) = some (r1, r2) := H
  have A3 := Aside0.mk A30
  clear A30
  have HC4 := Aside0.mk H
  clear H
  go_enter Try.func49, Try.ntmps49
  go_upto_region 2 with (first | ((with_reducible refine gate_callee (f := 54) rfl ?_); refine goesL_ (some 11) rfl rfl Try.func54 (by kernel_rfl) rfl #[.int .u8 a0, .int .u8 a1] rfl (by (try simp only [List.map_toArray, List.map_cons, List.map_nil]); first | done | rfl | (simp only [List.length_drop, List.length_take]; rfl)) ?_; (with_reducible refine (bits_Down_uint8.calls a0 a1 t102 t103 _ A3.out).mono ?_); rintro e w' ⟨rfl, ⟨nd, rfl⟩⟩; refine ⟨_, rfl, ?_⟩))
  (try simp only [Act.put, List.setIfInBounds_toArray, List.set_cons_zero, List.set_cons_succ])
  go_cut [20] (fun v20 wc => ∃ (kq : Nat) (x20_3 : Bool), v20 = .bool x20_3 ∧ Aside0 (bits_Up_uint8.j0 kq a1 t102 t103 x20_3 = some (r1, r2)) ∧ Aside0 (kq ≤ k) ∧ Drawn0 w wc)
  case first =>
    have H := HC4.out
    clear HC4
    by_cases c5 : t103 = true
    · subst c5
      have H1 : (bits_Up_uint8.j0 k a1 t102 true (t102 == a0)) = some (r1, r2) := by rw [if_pos rfl] at H; exact H
      clear H
      have H := H1
      clear H1
      have H' := Aside0.mk H
      clear H
      go_wp2
      go_meet
      case rel => exact ⟨_, ((t102 == a0)), (by first | rfl | (simp; done) | (simp [*]; done)), H', ⟨by first | omega | exact Nat.le_refl _⟩, by repeat (first | exact Drawn0.refl _ | apply Drawn0.step)⟩
    · replace c5 := Bool.eq_false_iff.mpr c5
      subst c5
      have H1 : (bits_Up_uint8.j0 k a1 t102 false true) = some (r1, r2) := by rw [if_neg (show ¬ (false = true) by decide)] at H; exact H
      clear H
      have H := H1
      clear H1
      have H' := Aside0.mk H
      clear H
      go_wp2
      go_meet
      case rel => exact ⟨_, (true), (by first | rfl | (simp; done) | (simp [*]; done)), H', ⟨by first | omega | exact Nat.le_refl _⟩, by repeat (first | exact Drawn0.refl _ | apply Drawn0.step)⟩
  case rest =>
    clear HC4
    try clear p2
    try clear c4
    try clear c5
    obtain ⟨kq, x20_3, rfl, HA, HJ3, ⟨mc3, rfl⟩⟩ := hcut
    cases kq with
    | zero => exact absurd HA.out (by simp [bits_Up_uint8.j0])
    | succ kj3 =>
      have H := HA.out
      clear HA
      simp only [bits_Up_uint8.j0] at H
      by_cases c6 : x20_3 = true
      · subst c6
        have H1 : (some (t102, t103)) = some (r1, r2) := by rw [if_pos rfl] at H; exact H
        clear H
        have H := H1
        clear H1
        simp only [Option.some.injEq, Prod.mk.injEq] at H
        obtain ⟨rfl, rfl⟩ := H
        go_wp2
        go_ret2
        exact ⟨by first | rfl | (simp; done) | (simp [*]; done), by repeat (first | exact Drawn0.refl _ | apply Drawn0.step)⟩
      · replace c6 := Bool.eq_false_iff.mpr c6
        subst c6
        have H1 : (if ((t102 + a1) % 256) = 0 then (some (0, false)) else (some ((t102 + a1) % 256, true))) = some (r1, r2) := by rw [if_neg (show ¬ (false = true) by decide)] at H; exact H
        clear H
        have H := H1
        clear H1
        by_cases c7 : ((t102 + a1) % 256) = 0
        · rw [if_pos c7] at H
          have c7b0 : (((t102 + a1) % 256) == 0) = true := beq_iff_eq.mpr c7
          have c7b1 : (((t102 + a1) % 256) != 0) = false := bne_eq_false_iff_eq.mpr c7
          clear c7
          simp only [Option.some.injEq, Prod.mk.injEq] at H
          obtain ⟨rfl, rfl⟩ := H
          go_wp2
          go_ret2
          exact ⟨by first | rfl | (simp; done) | (simp [*]; done), by repeat (first | exact Drawn0.refl _ | apply Drawn0.step)⟩
        · rw [if_neg c7] at H
          have c7b0 : (((t102 + a1) % 256) == 0) = false := beq_eq_false_iff_ne.mpr c7
          have c7b1 : (((t102 + a1) % 256) != 0) = true := bne_iff_ne.mpr c7
          simp only [Option.some.injEq, Prod.mk.injEq] at H
          obtain ⟨rfl, rfl⟩ := H
          go_wp2
          go_ret2
          exact ⟨by first | rfl | (simp; done) | (simp [*]; done), by repeat (first | exact Drawn0.refl _ | apply Drawn0.step)⟩

/-! ### croftref1_Cut: function 52 -/
def croftref1_Cut.f (a0 : Int) (a1 : Int) : Option (Int) := if a1 = 64 then (some a0) else (if 0 ≤ a1 then (some (Go.bits .and .u64 a0 (IntKind.u64.wrap ((shl .u64 1 a1) - 1)))) else (none))
set_option maxHeartbeats 8000000 in
set_option maxRecDepth 100000 in
theorem croftref1_Cut.calls (a0 : Int) (a1 : Int) (r : Int) (w : World) (h : croftref1_Cut.f a0 a1 = some r) :
    Calls Try.prog 52 #[.int .u64 a0, .int .i64 a1] w fun e w' => e = .returned (.int .u64 r) ∧ Drawn0 w w' := by
  have H : (if a1 = 64 then (some a0) else (if 0 ≤ a1 then (some (Go.bits .and .u64 a0 (IntKind.u64.wrap ((shl .u64 1 a1) - 1)))) else (none))) = some r := h
  clear h
  by_cases c3 : a1 = 64
  · rw [if_pos c3] at H
    have c3b0 : (a1 == 64) = true := beq_iff_eq.mpr c3
    have c3b1 : (a1 != 64) = false := bne_eq_false_iff_eq.mpr c3
    clear c3
    obtain rfl := Option.some.inj H
    go_enter Try.func52, Try.ntmps52
    go_wp2
    go_ret
    exact ⟨by first | rfl | (simp; done) | (simp [*]; done), by repeat (first | exact Drawn0.refl _ | apply Drawn0.step)⟩
  · rw [if_neg c3] at H
    have c3b0 : (a1 == 64) = false := beq_eq_false_iff_ne.mpr c3
    have c3b1 : (a1 != 64) = true := bne_iff_ne.mpr c3
    by_cases c4 : 0 ≤ a1
    · rw [if_pos c4] at H
      have c4b0 := eq_true c4
      have c4b1 : decide (0 ≤ a1) = true := decide_eq_true c4
      clear c4
      obtain ⟨ji5, hji5⟩ : ∃ j_ : Int, (shl .u64 1 a1) = j_ := ⟨_, rfl⟩
      replace H : (some (Go.bits .and .u64 a0 (IntKind.u64.wrap ((ji5) - 1)))) = some r := by first | (rw [hji5] at H; exact H) | (simp only [hji5] at H ⊢; exact H)
      have hji5_ : (IntKind.u64.wrap (1 * 2 ^ min a1.toNat 64)) = ji5 := hji5
      have hji5z : a1 ≤ 64 → (IntKind.u64.wrap (1 * 2 ^ a1.toNat)) = ji5 := shl_small hji5
      have hji5u : (IntKind.u64.wrap (2 ^ min a1.toNat 64)) = ji5 := by have h_ := hji5_; rw [Int.one_mul] at h_; exact h_
      have hji5v : a1 ≤ 64 → (IntKind.u64.wrap (2 ^ a1.toNat)) = ji5 := fun hle_ => by have h_ := hji5z hle_; rw [Int.one_mul] at h_; exact h_
      obtain rfl := Option.some.inj H
      go_enter Try.func52, Try.ntmps52
      go_wp2
      go_ret
      exact ⟨by first | rfl | (simp; done) | (simp only [← hji5] <;> (first | rfl | simp)) | (simp [*]; done), by repeat (first | exact Drawn0.refl _ | apply Drawn0.step)⟩
    · rw [if_neg c4] at H
      exact absurd H (by simp)

/-! ### croftref1_Power: function 65 -/
def croftref1_Power.l0 : Nat → Int → Int → Int → Option (Int)
  | 0, _, _, _ => none
  | k + 1, x0, x3, x4 => if x4 < x0 then (croftref1_Power.l0 k x0 (IntKind.u64.wrap (x3 * 2)) (wrap64 (x4 + 1))) else (some x3)
def croftref1_Power.f (k : Nat) (a0 : Int) : Option (Int) := croftref1_Power.l0 k a0 1 0
theorem croftref1_Power.mono_l : ∀ k, (∀ y0 y1 y2, LeO (croftref1_Power.l0 k y0 y1 y2) (croftref1_Power.l0 (k + 1) y0 y1 y2))
  | 0 => fun _ _ _ r h => by simp [croftref1_Power.l0] at h
  | k + 1 => by
    have ih0 := croftref1_Power.mono_l k
    · intro y0 y1 y2
      unfold croftref1_Power.l0
      repeat' first
      | (with_reducible exact ih0 _ _ _)
      | (with_reducible exact LeO.refl _)
      | (with_reducible exact LeO.none _)
      | (with_reducible refine LeO.ite ?_ ?_)
      | (with_reducible refine LeO.bind ?_ (fun _ => ?_))
      | exact ih0 _ _ _
      | exact LeO.none _
      | refine LeO.ite ?_ ?_
      | refine LeO.bind ?_ (fun _ => ?_)
theorem croftref1_Power.mono : ∀ a0 k, LeO (croftref1_Power.f k a0) (croftref1_Power.f (k + 1) a0) := by
  intro a0 k
  have ih0 := croftref1_Power.mono_l k
  unfold croftref1_Power.f
  repeat' first
      | (with_reducible exact ih0 _ _ _)
      | (with_reducible exact LeO.refl _)
      | (with_reducible exact LeO.none _)
      | (with_reducible refine LeO.ite ?_ ?_)
      | (with_reducible refine LeO.bind ?_ (fun _ => ?_))
      | exact ih0 _ _ _
      | exact LeO.none _
      | refine LeO.ite ?_ ?_
      | refine LeO.bind ?_ (fun _ => ?_)
set_option maxHeartbeats 8000000 in
set_option maxRecDepth 100000 in
theorem croftref1_Power.calls (k : Nat) (a0 : Int) (r : Int) (w : World) (h : croftref1_Power.f k a0 = some r) :
    Calls Try.prog 65 #[.int .i64 a0] w fun e w' => e = .returned (.int .u64 r) ∧ Drawn0 w w' := by
  have H : (croftref1_Power.l0 k a0 1 0) = some r := h
  clear h
  have H' := Aside0.mk H
  clear H
  go_enter Try.func65, Try.ntmps65
  go_wp2
  go_loopg [3, 4] k (fun kq v3 v4 w' => ∃ (x3_1 : Int) (x4_1 : Int), v3 = .int .u64 x3_1 ∧ v4 = .int .i64 x4_1 ∧ Aside0 (croftref1_Power.l0 kq a0 x3_1 x4_1 = some r) ∧ Aside0 (kq ≤ k) ∧ Drawn0 w w')
  case atStart => exact ⟨(1), (0), (by first | rfl | (simp; done) | (simp [*]; done)), (by first | rfl | (simp; done) | (simp [*]; done)), H', ⟨Nat.le_refl _⟩, by repeat (first | exact Drawn0.refl _ | apply Drawn0.step)⟩
  case round =>
    clear H'
    obtain ⟨x3_1, x4_1, rfl, rfl, HA, HK1, ⟨m1, rfl⟩⟩ := hrel
    cases gk with
    | zero => exact absurd HA.out (by simp [croftref1_Power.l0])
    | succ k1 =>
      have H := HA.out
      clear HA
      simp only [croftref1_Power.l0] at H
      by_cases c2 : x4_1 < a0
      · rw [if_pos c2] at H
        have c2b0 : decide (x4_1 < a0) = true := decide_eq_true c2
        clear c2
        have H' := Aside0.mk H
        clear H
        go_wp2
        go_roundg k1
        case measure => have := HK1.out; omega
        case rel => exact ⟨(IntKind.u64.wrap (x3_1 * 2)), (wrap64 (x4_1 + 1)), (by first | rfl | (simp; done) | (simp [*]; done)), (by first | rfl | (simp; done) | (simp [*]; done)), H', ⟨by have := HK1.out; omega⟩, by repeat (first | exact Drawn0.refl _ | apply Drawn0.step)⟩
      · rw [if_neg c2] at H
        have c2b0 : decide (x4_1 < a0) = false := decide_eq_false c2
        clear c2
        obtain rfl := Option.some.inj H
        go_wp2
        go_ret
        exact ⟨by first | rfl | (simp; done) | (simp [*]; done), by repeat (first | exact Drawn0.refl _ | apply Drawn0.step)⟩

/-! ### croftref1_IsPower: function 68 -/
def croftref1_IsPower.l0 : Nat → Int → Int → Int → Option (Bool)
  | 0, _, _, _ => none
  | k + 1, x0, x1, x5 => if x5 < x1 then ((croftref1_Power.f k x5).bind fun t104 => (if t104 = x0 then (some true) else (croftref1_IsPower.l0 k x0 x1 (wrap64 (x5 + 1))))) else (some false)
def croftref1_IsPower.f (k : Nat) (a0 : Int) (a1 : Int) : Option (Bool) := croftref1_IsPower.l0 k a0 a1 0
theorem croftref1_IsPower.mono_l : ∀ k, (∀ y0 y1 y2, LeO (croftref1_IsPower.l0 k y0 y1 y2) (croftref1_IsPower.l0 (k + 1) y0 y1 y2))
  | 0 => fun _ _ _ r h => by simp [croftref1_IsPower.l0] at h
  | k + 1 => by
    have ih0 := croftref1_IsPower.mono_l k
    · intro y0 y1 y2
      unfold croftref1_IsPower.l0
      repeat' first
      | (with_reducible exact ih0 _ _ _)
      | (with_reducible exact croftref1_Power.mono _ _)
      | (with_reducible exact LeO.refl _)
      | (with_reducible exact LeO.none _)
      | (with_reducible refine LeO.ite ?_ ?_)
      | (with_reducible refine LeO.bind ?_ (fun _ => ?_))
      | exact ih0 _ _ _
      | exact croftref1_Power.mono _ _
      | exact LeO.none _
      | refine LeO.ite ?_ ?_
      | refine LeO.bind ?_ (fun _ => ?_)
theorem croftref1_IsPower.mono : ∀ a0 a1 k, LeO (croftref1_IsPower.f k a0 a1) (croftref1_IsPower.f (k + 1) a0 a1) := by
  intro a0 a1 k
  have ih0 := croftref1_IsPower.mono_l k
  unfold croftref1_IsPower.f
  repeat' first
      | (with_reducible exact ih0 _ _ _)
      | (with_reducible exact croftref1_Power.mono _ _)
      | (with_reducible exact LeO.refl _)
      | (with_reducible exact LeO.none _)
      | (with_reducible refine LeO.ite ?_ ?_)
      | (with_reducible refine LeO.bind ?_ (fun _ => ?_))
      | exact ih0 _ _ _
      | exact croftref1_Power.mono _ _
      | exact LeO.none _
      | refine LeO.ite ?_ ?_
      | refine LeO.bind ?_ (fun _ => ?_)
set_option maxHeartbeats 8000000 in
set_option maxRecDepth 100000 in
theorem croftref1_IsPower.calls (k : Nat) (a0 : Int) (a1 : Int) (r : Bool) (w : World) (h : croftref1_IsPower.f k a0 a1 = some r) :
    Calls Try.prog 68 #[.int .u64 a0, .int .i64 a1] w fun e w' => e = .returned (.bool r) ∧ Drawn0 w w' := by
  have H : (croftref1_IsPower.l0 k a0 a1 0) = some r := h
  clear h
  have H' := Aside0.mk H
  clear H
  go_enter Try.func68, Try.ntmps68
  go_wp2
  go_loopg [5] k (fun kq v5 w' => ∃ (x5_1 : Int), v5 = .int .i64 x5_1 ∧ Aside0 (croftref1_IsPower.l0 kq a0 a1 x5_1 = some r) ∧ Aside0 (kq ≤ k) ∧ Drawn0 w w')
  case atStart => exact ⟨(0), (by first | rfl | (simp; done) | (simp [*]; done)), H', ⟨Nat.le_refl _⟩, by repeat (first | exact Drawn0.refl _ | apply Drawn0.step)⟩
  case round =>
    clear H'
    try clear p2
    obtain ⟨x5_1, rfl, HA, HK1, ⟨m1, rfl⟩⟩ := hrel
    cases gk with
    | zero => exact absurd HA.out (by simp [croftref1_IsPower.l0])
    | succ k1 =>
      have H := HA.out
      clear HA
      simp only [croftref1_IsPower.l0] at H
      by_cases c3 : x5_1 < a1
      · rw [if_pos c3] at H
        have c3b0 : decide (x5_1 < a1) = true := decide_eq_true c3
        clear c3
        replace H := Option.bind_eq_some_iff.mp H
        obtain ⟨t104, A40, H⟩ := H
        replace H : (if t104 = a0 then (some true) else (croftref1_IsPower.l0 k1 a0 a1 (wrap64 (x5_1 + 1)))) = some r := H
        have A4 := Aside0.mk A40
        clear A40
        by_cases c5 : t104 = a0
        · rw [if_pos c5] at H
          have c5b0 : (t104 == a0) = true := beq_iff_eq.mpr c5
          have c5b1 : (t104 != a0) = false := bne_eq_false_iff_eq.mpr c5
          clear c5
          obtain rfl := Option.some.inj H
          go_wp2_with (first | ((with_reducible refine gate_callee (f := 65) rfl ?_); refine goesL_ (some 12) rfl rfl Try.func65 (by kernel_rfl) rfl #[.int .i64 x5_1] rfl (by (try simp only [List.map_toArray, List.map_cons, List.map_nil]); first | done | rfl | (simp only [List.length_drop, List.length_take]; rfl)) ?_; (with_reducible refine (croftref1_Power.calls k1 x5_1 t104 _ A4.out).mono ?_); rintro e w' ⟨rfl, ⟨nd, rfl⟩⟩; refine ⟨_, rfl, ?_⟩))
          go_ret
          exact ⟨by first | rfl | (simp; done) | (simp [*]; done), by repeat (first | exact Drawn0.refl _ | apply Drawn0.step)⟩
        · rw [if_neg c5] at H
          have c5b0 : (t104 == a0) = false := beq_eq_false_iff_ne.mpr c5
          have c5b1 : (t104 != a0) = true := bne_iff_ne.mpr c5
          have H' := Aside0.mk H
          clear H
          go_wp2_with (first | ((with_reducible refine gate_callee (f := 65) rfl ?_); refine goesL_ (some 12) rfl rfl Try.func65 (by kernel_rfl) rfl #[.int .i64 x5_1] rfl (by (try simp only [List.map_toArray, List.map_cons, List.map_nil]); first | done | rfl | (simp only [List.length_drop, List.length_take]; rfl)) ?_; (with_reducible refine (croftref1_Power.calls k1 x5_1 t104 _ A4.out).mono ?_); rintro e w' ⟨rfl, ⟨nd, rfl⟩⟩; refine ⟨_, rfl, ?_⟩))
          go_roundg k1
          case measure => have := HK1.out; omega
          case rel => exact ⟨(wrap64 (x5_1 + 1)), (by first | rfl | (simp; done) | (simp [*]; done)), H', ⟨by have := HK1.out; omega⟩, by repeat (first | exact Drawn0.refl _ | apply Drawn0.step)⟩
      · rw [if_neg c3] at H
        have c3b0 : decide (x5_1 < a1) = false := decide_eq_false c3
        clear c3
        obtain rfl := Option.some.inj H
        go_wp2
        go_ret
        exact ⟨by first | rfl | (simp; done) | (simp [*]; done), by repeat (first | exact Drawn0.refl _ | apply Drawn0.step)⟩

/-! ### croftref1_Down: function 55 -/
def croftref1_Down.f (k : Nat) (a0 : Int) (a1 : Int) (a2 : Int) : Option (Int × Bool) := (croftref1_IsPower.f k a1 a2).bind fun t105 => (if t105 = true then (if a1 = 0 then (none) else (some (IntKind.u64.wrap ((IntKind.u64.wrap (Int.tdiv a0 a1)) * a1), true))) else (some (0, false)))
theorem croftref1_Down.mono : ∀ a0 a1 a2 k, LeO (croftref1_Down.f k a0 a1 a2) (croftref1_Down.f (k + 1) a0 a1 a2) := by
  intro a0 a1 a2 k
  unfold croftref1_Down.f
  repeat' first
      | (with_reducible exact croftref1_IsPower.mono _ _ _)
      | (with_reducible exact LeO.refl _)
      | (with_reducible exact LeO.none _)
      | (with_reducible refine LeO.ite ?_ ?_)
      | (with_reducible refine LeO.bind ?_ (fun _ => ?_))
      | exact croftref1_IsPower.mono _ _ _
      | exact LeO.none _
      | refine LeO.ite ?_ ?_
      | refine LeO.bind ?_ (fun _ => ?_)
set_option maxHeartbeats 8000000 in
set_option maxRecDepth 100000 in
theorem croftref1_Down.calls (k : Nat) (a0 : Int) (a1 : Int) (a2 : Int) (r1 : Int) (r2 : Bool) (w : World) (h : croftref1_Down.f k a0 a1 a2 = some (r1, r2)) :
    Calls Try.prog 55 #[.int .u64 a0, .int .u64 a1, .int .i64 a2] w fun e w' => e = .returned (.tuple #[.int .u64 r1, .bool r2]) ∧ Drawn0 w w' := by
  have H : ((croftref1_IsPower.f k a1 a2).bind fun t105 => (if t105 = true then (if a1 = 0 then (none) else (some (IntKind.u64.wrap ((IntKind.u64.wrap (Int.tdiv a0 a1)) * a1), true))) else (some (0, false)))) = some (r1, r2) := h
  clear h
  replace H := Option.bind_eq_some_iff.mp H
  obtain ⟨t105, A40, H⟩ := H
  replace H : (if t105 = true then (if a1 = 0 then (none) else (some (IntKind.u64.wrap ((IntKind.u64.wrap (Int.tdiv a0 a1)) * a1), true))) else (some (0, false))) = some (r1, r2) := H
  have A4 := Aside0.mk A40
  clear A40
  by_cases c5 : t105 = true
  · subst c5
    have H1 : (if a1 = 0 then (none) else (some (IntKind.u64.wrap ((IntKind.u64.wrap (Int.tdiv a0 a1)) * a1), true))) = some (r1, r2) := by rw [if_pos rfl] at H; exact H
    clear H
    have H := H1
    clear H1
    by_cases c6 : a1 = 0
    · rw [if_pos c6] at H
      exact absurd H (by simp)
    · rw [if_neg c6] at H
      have c6b0 : (a1 == 0) = false := beq_eq_false_iff_ne.mpr c6
      have c6b1 : (a1 != 0) = true := bne_iff_ne.mpr c6
      simp only [Option.some.injEq, Prod.mk.injEq] at H
      obtain ⟨rfl, rfl⟩ := H
      go_enter Try.func55, Try.ntmps55
      go_wp2_with (first | ((with_reducible refine gate_callee (f := 68) rfl ?_); refine goesL_ (some 10) rfl rfl Try.func68 (by kernel_rfl) rfl #[.int .u64 a1, .int .i64 a2] rfl (by (try simp only [List.map_toArray, List.map_cons, List.map_nil]); first | done | rfl | (simp only [List.length_drop, List.length_take]; rfl)) ?_; (with_reducible refine (croftref1_IsPower.calls k a1 a2 true _ A4.out).mono ?_); rintro e w' ⟨rfl, ⟨nd, rfl⟩⟩; refine ⟨_, rfl, ?_⟩))
      go_ret2
      exact ⟨by first | rfl | (simp; done) | (simp [*]; done), by repeat (first | exact Drawn0.refl _ | apply Drawn0.step)⟩
  · replace c5 := Bool.eq_false_iff.mpr c5
    subst c5
    have H1 : (some (0, false)) = some (r1, r2) := by rw [if_neg (show ¬ (false = true) by decide)] at H; exact H
    clear H
    have H := H1
    clear H1
    simp only [Option.some.injEq, Prod.mk.injEq] at H
    obtain ⟨rfl, rfl⟩ := H
    go_enter Try.func55, Try.ntmps55
    go_wp2_with (first | ((with_reducible refine gate_callee (f := 68) rfl ?_); refine goesL_ (some 10) rfl rfl Try.func68 (by kernel_rfl) rfl #[.int .u64 a1, .int .i64 a2] rfl (by (try simp only [List.map_toArray, List.map_cons, List.map_nil]); first | done | rfl | (simp only [List.length_drop, List.length_take]; rfl)) ?_; (with_reducible refine (croftref1_IsPower.calls k a1 a2 false _ A4.out).mono ?_); rintro e w' ⟨rfl, ⟨nd, rfl⟩⟩; refine ⟨_, rfl, ?_⟩))
    go_ret2
    exact ⟨by first | rfl | (simp; done) | (simp [*]; done), by repeat (first | exact Drawn0.refl _ | apply Drawn0.step)⟩

/-! ### croftref1_Up: function 53 -/
def croftref1_Up.j0 : Nat → Int → Int → Int → Bool → Bool → Option (Int × Bool)
  | 0, _, _, _, _, _ => none
  | k + 1, x1, x2, x8, x9, x24 => if x24 = true then (some (x8, x9)) else ((croftref1_Cut.f 18446744073709551615 x2).bind fun t108 => (if x1 > (IntKind.u64.wrap (t108 - x8)) then (some (0, false)) else (some (IntKind.u64.wrap (x8 + x1), true))))
def croftref1_Up.f (k : Nat) (a0 : Int) (a1 : Int) (a2 : Int) : Option (Int × Bool) := (croftref1_Down.f k a0 a1 a2).bind fun bt106 => (if bt106.2 = true then (croftref1_Up.j0 k a1 a2 bt106.1 bt106.2 (bt106.1 == a0)) else (croftref1_Up.j0 k a1 a2 bt106.1 bt106.2 true))
theorem croftref1_Up.mono_l : ∀ k, (∀ y0 y1 y2 y3 y4, LeO (croftref1_Up.j0 k y0 y1 y2 y3 y4) (croftref1_Up.j0 (k + 1) y0 y1 y2 y3 y4))
  | 0 => fun _ _ _ _ _ r h => by simp [croftref1_Up.j0] at h
  | k + 1 => by
    have ih0 := croftref1_Up.mono_l k
    · intro y0 y1 y2 y3 y4
      unfold croftref1_Up.j0
      repeat' first
      | (with_reducible exact ih0 _ _ _ _ _)
      | (with_reducible exact croftref1_Down.mono _ _ _ _)
      | (with_reducible exact LeO.refl _)
      | (with_reducible exact LeO.none _)
      | (with_reducible refine LeO.ite ?_ ?_)
      | (with_reducible refine LeO.bind ?_ (fun _ => ?_))
      | exact ih0 _ _ _ _ _
      | exact croftref1_Down.mono _ _ _ _
      | exact LeO.none _
      | refine LeO.ite ?_ ?_
      | refine LeO.bind ?_ (fun _ => ?_)
theorem croftref1_Up.mono : ∀ a0 a1 a2 k, LeO (croftref1_Up.f k a0 a1 a2) (croftref1_Up.f (k + 1) a0 a1 a2) := by
  intro a0 a1 a2 k
  have ih0 := croftref1_Up.mono_l k
  unfold croftref1_Up.f
  repeat' first
      | (with_reducible exact ih0 _ _ _ _ _)
      | (with_reducible exact croftref1_Down.mono _ _ _ _)
      | (with_reducible exact LeO.refl _)
      | (with_reducible exact LeO.none _)
      | (with_reducible refine LeO.ite ?_ ?_)
      | (with_reducible refine LeO.bind ?_ (fun _ => ?_))
      | exact ih0 _ _ _ _ _
      | exact croftref1_Down.mono _ _ _ _
      | exact LeO.none _
      | refine LeO.ite ?_ ?_
      | refine LeO.bind ?_ (fun _ => ?_)
set_option maxHeartbeats 8000000 in
set_option maxRecDepth 100000 in
theorem croftref1_Up.calls (k : Nat) (a0 : Int) (a1 : Int) (a2 : Int) (r1 : Int) (r2 : Bool) (w : World) (h : croftref1_Up.f k a0 a1 a2 = some (r1, r2)) :
    Calls Try.prog 53 #[.int .u64 a0, .int .u64 a1, .int .i64 a2] w fun e w' => e = .returned (.tuple #[.int .u64 r1, .bool r2]) ∧ Drawn0 w w' := by
  have H : ((croftref1_Down.f k a0 a1 a2).bind fun bt106 => (if bt106.2 = true then (croftref1_Up.j0 k a1 a2 bt106.1 bt106.2 (bt106.1 == a0)) else (croftref1_Up.j0 k a1 a2 bt106.1 bt106.2 true))) = some (r1, r2) := h
  clear h
  replace H := Option.bind_eq_some_iff.mp H
  obtain ⟨⟨t106, t107⟩, A40, H⟩ := H
  replace H : (if t107 = true then (croftref1_Up.j0 k a1 a2 t106 t107 (t106 == a0)) else (croftref1_Up.j0 k a1 a2 t106 t107 true)) = some (r1, r2) := H
  have A4 := Aside0.mk A40
  clear A40
  have HC5 := Aside0.mk H
  clear H
  go_enter Try.func53, Try.ntmps53
  go_upto_region 2 with (first | ((with_reducible refine gate_callee (f := 55) rfl ?_); refine goesL_ (some 15) rfl rfl Try.func55 (by kernel_rfl) rfl #[.int .u64 a0, .int .u64 a1, .int .i64 a2] rfl (by (try simp only [List.map_toArray, List.map_cons, List.map_nil]); first | done | rfl | (simp only [List.length_drop, List.length_take]; rfl)) ?_; (with_reducible refine (croftref1_Down.calls k a0 a1 a2 t106 t107 _ A4.out).mono ?_); rintro e w' ⟨rfl, ⟨nd, rfl⟩⟩; refine ⟨_, rfl, ?_⟩))
  (try simp only [Act.put, List.setIfInBounds_toArray, List.set_cons_zero, List.set_cons_succ])
  go_cut [24] (fun v24 wc => ∃ (kq : Nat) (x24_4 : Bool), v24 = .bool x24_4 ∧ Aside0 (croftref1_Up.j0 kq a1 a2 t106 t107 x24_4 = some (r1, r2)) ∧ Aside0 (kq ≤ k) ∧ Drawn0 w wc)
  case first =>
    have H := HC5.out
    clear HC5
    by_cases c6 : t107 = true
    · subst c6
      have H1 : (croftref1_Up.j0 k a1 a2 t106 true (t106 == a0)) = some (r1, r2) := by rw [if_pos rfl] at H; exact H
      clear H
      have H := H1
      clear H1
      have H' := Aside0.mk H
      clear H
      go_wp2
      go_meet
      case rel => exact ⟨_, ((t106 == a0)), (by first | rfl | (simp; done) | (simp [*]; done)), H', ⟨by first | omega | exact Nat.le_refl _⟩, by repeat (first | exact Drawn0.refl _ | apply Drawn0.step)⟩
    · replace c6 := Bool.eq_false_iff.mpr c6
      subst c6
      have H1 : (croftref1_Up.j0 k a1 a2 t106 false true) = some (r1, r2) := by rw [if_neg (show ¬ (false = true) by decide)] at H; exact H
      clear H
      have H := H1
      clear H1
      have H' := Aside0.mk H
      clear H
      go_wp2
      go_meet
      case rel => exact ⟨_, (true), (by first | rfl | (simp; done) | (simp [*]; done)), H', ⟨by first | omega | exact Nat.le_refl _⟩, by repeat (first | exact Drawn0.refl _ | apply Drawn0.step)⟩
  case rest =>
    clear HC5
    try clear p2
    try clear c5
    try clear c6
    obtain ⟨kq, x24_4, rfl, HA, HJ4, ⟨mc4, rfl⟩⟩ := hcut
    cases kq with
    | zero => exact absurd HA.out (by simp [croftref1_Up.j0])
    | succ kj4 =>
      have H := HA.out
      clear HA
      simp only [croftref1_Up.j0] at H
      by_cases c7 : x24_4 = true
      · subst c7
        have H1 : (some (t106, t107)) = some (r1, r2) := by rw [if_pos rfl] at H; exact H
        clear H
        have H := H1
        clear H1
        simp only [Option.some.injEq, Prod.mk.injEq] at H
        obtain ⟨rfl, rfl⟩ := H
        go_wp2
        go_ret2
        exact ⟨by first | rfl | (simp; done) | (simp [*]; done), by repeat (first | exact Drawn0.refl _ | apply Drawn0.step)⟩
      · replace c7 := Bool.eq_false_iff.mpr c7
        subst c7
        have H1 : ((croftref1_Cut.f 18446744073709551615 a2).bind fun t108 => (if a1 > (IntKind.u64.wrap (t108 - t106)) then (some (0, false)) else (some (IntKind.u64.wrap (t106 + a1), true)))) = some (r1, r2) := by rw [if_neg (show ¬ (false = true) by decide)] at H; exact H
        clear H
        have H := H1
        clear H1
        replace H := Option.bind_eq_some_iff.mp H
        obtain ⟨t108, A80, H⟩ := H
        replace H : (if a1 > (IntKind.u64.wrap (t108 - t106)) then (some (0, false)) else (some (IntKind.u64.wrap (t106 + a1), true))) = some (r1, r2) := H
        have A8 := Aside0.mk A80
        clear A80
        by_cases c9 : a1 > (IntKind.u64.wrap (t108 - t106))
        · rw [if_pos c9] at H
          have c9b0 : decide ((IntKind.u64.wrap (t108 - t106)) < a1) = true := decide_eq_true c9
          clear c9
          simp only [Option.some.injEq, Prod.mk.injEq] at H
          obtain ⟨rfl, rfl⟩ := H
          go_wp2_with (first | ((with_reducible refine gate_callee (f := 52) rfl ?_); refine goesL_ (some 28) rfl rfl Try.func52 (by kernel_rfl) rfl #[.int .u64 18446744073709551615, .int .i64 a2] rfl (by (try simp only [List.map_toArray, List.map_cons, List.map_nil]); first | done | rfl | (simp only [List.length_drop, List.length_take]; rfl)) ?_; (with_reducible refine (croftref1_Cut.calls 18446744073709551615 a2 t108 _ A8.out).mono ?_); rintro e w' ⟨rfl, ⟨nd, rfl⟩⟩; refine ⟨_, rfl, ?_⟩))
          go_ret2
          exact ⟨by first | rfl | (simp; done) | (simp [*]; done), by repeat (first | exact Drawn0.refl _ | apply Drawn0.step)⟩
        · rw [if_neg c9] at H
          have c9b0 : decide ((IntKind.u64.wrap (t108 - t106)) < a1) = false := decide_eq_false c9
          clear c9
          simp only [Option.some.injEq, Prod.mk.injEq] at H
          obtain ⟨rfl, rfl⟩ := H
          go_wp2_with (first | ((with_reducible refine gate_callee (f := 52) rfl ?_); refine goesL_ (some 28) rfl rfl Try.func52 (by kernel_rfl) rfl #[.int .u64 18446744073709551615, .int .i64 a2] rfl (by (try simp only [List.map_toArray, List.map_cons, List.map_nil]); first | done | rfl | (simp only [List.length_drop, List.length_take]; rfl)) ?_; (with_reducible refine (croftref1_Cut.calls 18446744073709551615 a2 t108 _ A8.out).mono ?_); rintro e w' ⟨rfl, ⟨nd, rfl⟩⟩; refine ⟨_, rfl, ?_⟩))
          go_ret2
          exact ⟨by first | rfl | (simp; done) | (simp [*]; done), by repeat (first | exact Drawn0.refl _ | apply Drawn0.step)⟩

/-! ### croftlaw1_multiples_uint8: function 10 -/
def croftlaw1_multiples_uint8.j0 : Nat → Int → Int → Int → Int → Int → Bool → Option (Bool)
  | 0, _, _, _, _, _, _ => none
  | k + 1, x0, x1, x2, x7, x8, x42 => if x42 = true then (some false) else ((bits_Down_uint8.f ((x0) % 256) ((x1) % 256)).bind fun bt115 => ((croftref1_Down.f k x7 x8 x2).bind fun bt117 => (if (IntKind.u64.wrap (bt115.1)) = bt117.1 then (some (bt115.2 == bt117.2)) else (some false))))
def croftlaw1_multiples_uint8.f (k : Nat) (a0 : Int) (a1 : Int) (a2 : Int) : Option (Bool) := (croftref1_Cut.f a0 a2).bind fun t109 => ((croftref1_Cut.f a1 a2).bind fun t110 => ((bits_Up_uint8.f k ((a0) % 256) ((a1) % 256)).bind fun bt111 => ((croftref1_Up.f k t109 t110 a2).bind fun bt113 => (if (IntKind.u64.wrap (bt111.1)) = bt113.1 then (croftlaw1_multiples_uint8.j0 k a0 a1 a2 t109 t110 (bt111.2 != bt113.2)) else (croftlaw1_multiples_uint8.j0 k a0 a1 a2 t109 t110 true)))))
theorem croftlaw1_multiples_uint8.mono_l : ∀ k, (∀ y0 y1 y2 y3 y4 y5, LeO (croftlaw1_multiples_uint8.j0 k y0 y1 y2 y3 y4 y5) (croftlaw1_multiples_uint8.j0 (k + 1) y0 y1 y2 y3 y4 y5))
  | 0 => fun _ _ _ _ _ _ r h => by simp [croftlaw1_multiples_uint8.j0] at h
  | k + 1 => by
    have ih0 := croftlaw1_multiples_uint8.mono_l k
    · intro y0 y1 y2 y3 y4 y5
      unfold croftlaw1_multiples_uint8.j0
      repeat' first
      | (with_reducible exact ih0 _ _ _ _ _ _)
      | (with_reducible exact bits_Up_uint8.mono _ _ _)
      | (with_reducible exact croftref1_Down.mono _ _ _ _)
      | (with_reducible exact croftref1_Up.mono _ _ _ _)
      | (with_reducible exact LeO.refl _)
      | (with_reducible exact LeO.none _)
      | (with_reducible refine LeO.ite ?_ ?_)
      | (with_reducible refine LeO.bind ?_ (fun _ => ?_))
      | exact ih0 _ _ _ _ _ _
      | exact bits_Up_uint8.mono _ _ _
      | exact croftref1_Down.mono _ _ _ _
      | exact croftref1_Up.mono _ _ _ _
      | exact LeO.none _
      | refine LeO.ite ?_ ?_
      | refine LeO.bind ?_ (fun _ => ?_)
theorem croftlaw1_multiples_uint8.mono : ∀ a0 a1 a2 k, LeO (croftlaw1_multiples_uint8.f k a0 a1 a2) (croftlaw1_multiples_uint8.f (k + 1) a0 a1 a2) := by
  intro a0 a1 a2 k
  have ih0 := croftlaw1_multiples_uint8.mono_l k
  unfold croftlaw1_multiples_uint8.f
  repeat' first
      | (with_reducible exact ih0 _ _ _ _ _ _)
      | (with_reducible exact bits_Up_uint8.mono _ _ _)
      | (with_reducible exact croftref1_Down.mono _ _ _ _)
      | (with_reducible exact croftref1_Up.mono _ _ _ _)
      | (with_reducible exact LeO.refl _)
      | (with_reducible exact LeO.none _)
      | (with_reducible refine LeO.ite ?_ ?_)
      | (with_reducible refine LeO.bind ?_ (fun _ => ?_))
      | exact ih0 _ _ _ _ _ _
      | exact bits_Up_uint8.mono _ _ _
      | exact croftref1_Down.mono _ _ _ _
      | exact croftref1_Up.mono _ _ _ _
      | exact LeO.none _
      | refine LeO.ite ?_ ?_
      | refine LeO.bind ?_ (fun _ => ?_)
set_option maxHeartbeats 8000000 in
set_option maxRecDepth 100000 in
theorem croftlaw1_multiples_uint8.calls (k : Nat) (a0 : Int) (a1 : Int) (a2 : Int) (r : Bool) (w : World) (h : croftlaw1_multiples_uint8.f k a0 a1 a2 = some r) :
    Calls Try.prog 10 #[.int .u64 a0, .int .u64 a1, .int .i64 a2] w fun e w' => e = .returned (.bool r) ∧ Drawn0 w w' := by
  have H : ((croftref1_Cut.f a0 a2).bind fun t109 => ((croftref1_Cut.f a1 a2).bind fun t110 => ((bits_Up_uint8.f k ((a0) % 256) ((a1) % 256)).bind fun bt111 => ((croftref1_Up.f k t109 t110 a2).bind fun bt113 => (if (IntKind.u64.wrap (bt111.1)) = bt113.1 then (croftlaw1_multiples_uint8.j0 k a0 a1 a2 t109 t110 (bt111.2 != bt113.2)) else (croftlaw1_multiples_uint8.j0 k a0 a1 a2 t109 t110 true)))))) = some r := h
  clear h
  replace H := Option.bind_eq_some_iff.mp H
  obtain ⟨t109, A40, H⟩ := H
  replace H : ((croftref1_Cut.f a1 a2).bind fun t110 => ((bits_Up_uint8.f k ((a0) % 256) ((a1) % 256)).bind fun bt111 => ((croftref1_Up.f k t109 t110 a2).bind fun bt113 => (if (IntKind.u64.wrap (bt111.1)) = bt113.1 then (croftlaw1_multiples_uint8.j0 k a0 a1 a2 t109 t110 (bt111.2 != bt113.2)) else (croftlaw1_multiples_uint8.j0 k a0 a1 a2 t109 t110 true))))) = some r := H
  have A4 := Aside0.mk A40
  clear A40
  replace H := Option.bind_eq_some_iff.mp H
  obtain ⟨t110, A50, H⟩ := H
  replace H : ((bits_Up_uint8.f k ((a0) % 256) ((a1) % 256)).bind fun bt111 => ((croftref1_Up.f k t109 t110 a2).bind fun bt113 => (if (IntKind.u64.wrap (bt111.1)) = bt113.1 then (croftlaw1_multiples_uint8.j0 k a0 a1 a2 t109 t110 (bt111.2 != bt113.2)) else (croftlaw1_multiples_uint8.j0 k a0 a1 a2 t109 t110 true)))) = some r := H
  have A5 := Aside0.mk A50
  clear A50
  replace H := Option.bind_eq_some_iff.mp H
  obtain ⟨⟨t111, t112⟩, A60, H⟩ := H
  replace H : ((croftref1_Up.f k t109 t110 a2).bind fun bt113 => (if (IntKind.u64.wrap (t111)) = bt113.1 then (croftlaw1_multiples_uint8.j0 k a0 a1 a2 t109 t110 (t112 != bt113.2)) else (croftlaw1_multiples_uint8.j0 k a0 a1 a2 t109 t110 true))) = some r := H
  have A6 := Aside0.mk A60
  clear A60
  replace H := Option.bind_eq_some_iff.mp H
  obtain ⟨⟨t113, t114⟩, A70, H⟩ := H
  replace H : (if (IntKind.u64.wrap (t111)) = t113 then (croftlaw1_multiples_uint8.j0 k a0 a1 a2 t109 t110 (t112 != t114)) else (croftlaw1_multiples_uint8.j0 k a0 a1 a2 t109 t110 true)) = some r := H
  have A7 := Aside0.mk A70
  clear A70
  have HC8 := Aside0.mk H
  clear H
  go_enter Try.func10, Try.ntmps10
  go_upto_region 5 with (first | ((with_reducible refine gate_callee (f := 52) rfl ?_); refine goesL_ (some 15) rfl rfl Try.func52 (by kernel_rfl) rfl #[.int .u64 a0, .int .i64 a2] rfl (by (try simp only [List.map_toArray, List.map_cons, List.map_nil]); first | done | rfl | (simp only [List.length_drop, List.length_take]; rfl)) ?_; (with_reducible refine (croftref1_Cut.calls a0 a2 t109 _ A4.out).mono ?_); rintro e w' ⟨rfl, ⟨nd, rfl⟩⟩; refine ⟨_, rfl, ?_⟩) | ((with_reducible refine gate_callee (f := 52) rfl ?_); refine goesL_ (some 18) rfl rfl Try.func52 (by kernel_rfl) rfl #[.int .u64 a1, .int .i64 a2] rfl (by (try simp only [List.map_toArray, List.map_cons, List.map_nil]); first | done | rfl | (simp only [List.length_drop, List.length_take]; rfl)) ?_; (with_reducible refine (croftref1_Cut.calls a1 a2 t110 _ A5.out).mono ?_); rintro e w' ⟨rfl, ⟨nd, rfl⟩⟩; refine ⟨_, rfl, ?_⟩) | ((with_reducible refine gate_callee (f := 49) rfl ?_); refine goesL_ (some 24) rfl rfl Try.func49 (by kernel_rfl) rfl #[.int .u8 ((a0) % 256), .int .u8 ((a1) % 256)] rfl (by (try simp only [List.map_toArray, List.map_cons, List.map_nil]); first | done | rfl | (simp only [List.length_drop, List.length_take]; rfl)) ?_; (with_reducible refine (bits_Up_uint8.calls k ((a0) % 256) ((a1) % 256) t111 t112 _ A6.out).mono ?_); rintro e w' ⟨rfl, ⟨nd, rfl⟩⟩; refine ⟨_, rfl, ?_⟩) | ((with_reducible refine gate_callee (f := 53) rfl ?_); refine goesL_ (some 31) rfl rfl Try.func53 (by kernel_rfl) rfl #[.int .u64 t109, .int .u64 t110, .int .i64 a2] rfl (by (try simp only [List.map_toArray, List.map_cons, List.map_nil]); first | done | rfl | (simp only [List.length_drop, List.length_take]; rfl)) ?_; (with_reducible refine (croftref1_Up.calls k t109 t110 a2 t113 t114 _ A7.out).mono ?_); rintro e w' ⟨rfl, ⟨nd, rfl⟩⟩; refine ⟨_, rfl, ?_⟩))
  (try simp only [Act.put, List.setIfInBounds_toArray, List.set_cons_zero, List.set_cons_succ])
  go_cut [42] (fun v42 wc => ∃ (kq : Nat) (x42_7 : Bool), v42 = .bool x42_7 ∧ Aside0 (croftlaw1_multiples_uint8.j0 kq a0 a1 a2 t109 t110 x42_7 = some r) ∧ Aside0 (kq ≤ k) ∧ Drawn0 w wc)
  case first =>
    have H := HC8.out
    clear HC8
    by_cases c9 : (IntKind.u64.wrap (t111)) = t113
    · rw [if_pos c9] at H
      have c9b0 : ((IntKind.u64.wrap (t111)) == t113) = true := beq_iff_eq.mpr c9
      have c9b1 : ((IntKind.u64.wrap (t111)) != t113) = false := bne_eq_false_iff_eq.mpr c9
      clear c9
      (first | rw [c9b0] | (simp only [i64_w, i32_w]; rw [c9b0]) | skip)
      have H' := Aside0.mk H
      clear H
      go_wp2
      go_meet
      case rel => exact ⟨_, ((t112 != t114)), (by first | rfl | (simp; done) | (simp [*]; done)), H', ⟨by first | omega | exact Nat.le_refl _⟩, by repeat (first | exact Drawn0.refl _ | apply Drawn0.step)⟩
    · rw [if_neg c9] at H
      have c9b0 : ((IntKind.u64.wrap (t111)) == t113) = false := beq_eq_false_iff_ne.mpr c9
      have c9b1 : ((IntKind.u64.wrap (t111)) != t113) = true := bne_iff_ne.mpr c9
      (first | rw [c9b0] | (simp only [i64_w, i32_w]; rw [c9b0]) | skip)
      have H' := Aside0.mk H
      clear H
      go_wp2
      go_meet
      case rel => exact ⟨_, (true), (by first | rfl | (simp; done) | (simp [*]; done)), H', ⟨by first | omega | exact Nat.le_refl _⟩, by repeat (first | exact Drawn0.refl _ | apply Drawn0.step)⟩
  case rest =>
    clear HC8
    try clear c1
    try clear p2
    try clear c4
    try clear c5
    try clear c9
    try clear c9b0
    try clear c9b1
    obtain ⟨kq, x42_7, rfl, HA, HJ7, ⟨mc7, rfl⟩⟩ := hcut
    cases kq with
    | zero => exact absurd HA.out (by simp [croftlaw1_multiples_uint8.j0])
    | succ kj7 =>
      have H := HA.out
      clear HA
      simp only [croftlaw1_multiples_uint8.j0] at H
      by_cases c10 : x42_7 = true
      · subst c10
        have H1 : (some false) = some r := by rw [if_pos rfl] at H; exact H
        clear H
        have H := H1
        clear H1
        obtain rfl := Option.some.inj H
        go_wp2
        go_ret
        exact ⟨by first | rfl | (simp; done) | (simp [*]; done), by repeat (first | exact Drawn0.refl _ | apply Drawn0.step)⟩
      · replace c10 := Bool.eq_false_iff.mpr c10
        subst c10
        have H1 : ((bits_Down_uint8.f ((a0) % 256) ((a1) % 256)).bind fun bt115 => ((croftref1_Down.f kj7 t109 t110 a2).bind fun bt117 => (if (IntKind.u64.wrap (bt115.1)) = bt117.1 then (some (bt115.2 == bt117.2)) else (some false)))) = some r := by rw [if_neg (show ¬ (false = true) by decide)] at H; exact H
        clear H
        have H := H1
        clear H1
        replace H := Option.bind_eq_some_iff.mp H
        obtain ⟨⟨t115, t116⟩, A110, H⟩ := H
        replace H : ((croftref1_Down.f kj7 t109 t110 a2).bind fun bt117 => (if (IntKind.u64.wrap (t115)) = bt117.1 then (some (t116 == bt117.2)) else (some false))) = some r := H
        have A11 := Aside0.mk A110
        clear A110
        replace H := Option.bind_eq_some_iff.mp H
        obtain ⟨⟨t117, t118⟩, A120, H⟩ := H
        replace H : (if (IntKind.u64.wrap (t115)) = t117 then (some (t116 == t118)) else (some false)) = some r := H
        have A12 := Aside0.mk A120
        clear A120
        by_cases c13 : (IntKind.u64.wrap (t115)) = t117
        · rw [if_pos c13] at H
          have c13b0 : ((IntKind.u64.wrap (t115)) == t117) = true := beq_iff_eq.mpr c13
          have c13b1 : ((IntKind.u64.wrap (t115)) != t117) = false := bne_eq_false_iff_eq.mpr c13
          clear c13
          obtain rfl := Option.some.inj H
          go_wp2_with (first | ((with_reducible refine gate_callee (f := 54) rfl ?_); refine goesL_ (some 48) rfl rfl Try.func54 (by kernel_rfl) rfl #[.int .u8 ((a0) % 256), .int .u8 ((a1) % 256)] rfl (by (try simp only [List.map_toArray, List.map_cons, List.map_nil]); first | done | rfl | (simp only [List.length_drop, List.length_take]; rfl)) ?_; (with_reducible refine (bits_Down_uint8.calls ((a0) % 256) ((a1) % 256) t115 t116 _ A11.out).mono ?_); rintro e w' ⟨rfl, ⟨nd, rfl⟩⟩; refine ⟨_, rfl, ?_⟩) | ((with_reducible refine gate_callee (f := 55) rfl ?_); refine goesL_ (some 55) rfl rfl Try.func55 (by kernel_rfl) rfl #[.int .u64 t109, .int .u64 t110, .int .i64 a2] rfl (by (try simp only [List.map_toArray, List.map_cons, List.map_nil]); first | done | rfl | (simp only [List.length_drop, List.length_take]; rfl)) ?_; (with_reducible refine (croftref1_Down.calls kj7 t109 t110 a2 t117 t118 _ A12.out).mono ?_); rintro e w' ⟨rfl, ⟨nd, rfl⟩⟩; refine ⟨_, rfl, ?_⟩))
          go_ret
          exact ⟨by first | rfl | (simp; done) | (simp [*]; done), by repeat (first | exact Drawn0.refl _ | apply Drawn0.step)⟩
        · rw [if_neg c13] at H
          have c13b0 : ((IntKind.u64.wrap (t115)) == t117) = false := beq_eq_false_iff_ne.mpr c13
          have c13b1 : ((IntKind.u64.wrap (t115)) != t117) = true := bne_iff_ne.mpr c13
          obtain rfl := Option.some.inj H
          go_wp2_with (first | ((with_reducible refine gate_callee (f := 54) rfl ?_); refine goesL_ (some 48) rfl rfl Try.func54 (by kernel_rfl) rfl #[.int .u8 ((a0) % 256), .int .u8 ((a1) % 256)] rfl (by (try simp only [List.map_toArray, List.map_cons, List.map_nil]); first | done | rfl | (simp only [List.length_drop, List.length_take]; rfl)) ?_; (with_reducible refine (bits_Down_uint8.calls ((a0) % 256) ((a1) % 256) t115 t116 _ A11.out).mono ?_); rintro e w' ⟨rfl, ⟨nd, rfl⟩⟩; refine ⟨_, rfl, ?_⟩) | ((with_reducible refine gate_callee (f := 55) rfl ?_); refine goesL_ (some 55) rfl rfl Try.func55 (by kernel_rfl) rfl #[.int .u64 t109, .int .u64 t110, .int .i64 a2] rfl (by (try simp only [List.map_toArray, List.map_cons, List.map_nil]); first | done | rfl | (simp only [List.length_drop, List.length_take]; rfl)) ?_; (with_reducible refine (croftref1_Down.calls kj7 t109 t110 a2 t117 t118 _ A12.out).mono ?_); rintro e w' ⟨rfl, ⟨nd, rfl⟩⟩; refine ⟨_, rfl, ?_⟩))
          go_ret
          exact ⟨by first | rfl | (simp; done) | (simp [*]; done), by repeat (first | exact Drawn0.refl _ | apply Drawn0.step)⟩

/-! ### bits_IsPower_uint16: function 38 -/
def bits_IsPower_uint16.f (a0 : Int) : Option (Bool) := if a0 = 0 then (some false) else (some ((Go.bits .and .u16 a0 (IntKind.u16.wrap (a0 - 1))) == 0))
set_option maxHeartbeats 8000000 in
set_option maxRecDepth 100000 in
theorem bits_IsPower_uint16.calls (a0 : Int) (r : Bool) (w : World) (h : bits_IsPower_uint16.f a0 = some r) :
    Calls Try.prog 38 #[.int .u16 a0] w fun e w' => e = .returned (.bool r) ∧ Drawn0 w w' := by
  have H : (if a0 = 0 then (some false) else (some ((Go.bits .and .u16 a0 (IntKind.u16.wrap (a0 - 1))) == 0))) = some r := h
  clear h
  by_cases c2 : a0 = 0
  · rw [if_pos c2] at H
    have c2b0 : (a0 == 0) = true := beq_iff_eq.mpr c2
    have c2b1 : (a0 != 0) = false := bne_eq_false_iff_eq.mpr c2
    clear c2
    obtain rfl := Option.some.inj H
    go_enter Try.func38, Try.ntmps38
    go_wp2
    go_ret
    exact ⟨by first | rfl | (simp; done) | (simp [*]; done), by repeat (first | exact Drawn0.refl _ | apply Drawn0.step)⟩
  · rw [if_neg c2] at H
    have c2b0 : (a0 == 0) = false := beq_eq_false_iff_ne.mpr c2
    have c2b1 : (a0 != 0) = true := bne_iff_ne.mpr c2
    obtain rfl := Option.some.inj H
    go_enter Try.func38, Try.ntmps38
    go_wp2
    go_ret
    exact ⟨by first | rfl | (simp; done) | (simp [*]; done), by repeat (first | exact Drawn0.refl _ | apply Drawn0.step)⟩

/-! ### bits_Down_uint16: function 56 -/
def bits_Down_uint16.f (a0 : Int) (a1 : Int) : Option (Int × Bool) := (bits_IsPower_uint16.f a1).bind fun t119 => (if t119 = true then (some (Go.bits .andNot .u16 a0 (IntKind.u16.wrap (a1 - 1)), true)) else (some (0, false)))
set_option maxHeartbeats 8000000 in
set_option maxRecDepth 100000 in
theorem bits_Down_uint16.calls (a0 : Int) (a1 : Int) (r1 : Int) (r2 : Bool) (w : World) (h : bits_Down_uint16.f a0 a1 = some (r1, r2)) :
    Calls Try.prog 56 #[.int .u16 a0, .int .u16 a1] w fun e w' => e = .returned (.tuple #[.int .u16 r1, .bool r2]) ∧ Drawn0 w w' := by
  have H : ((bits_IsPower_uint16.f a1).bind fun t119 => (if t119 = true then (some (Go.bits .andNot .u16 a0 (IntKind.u16.wrap (a1 - 1)), true)) else (some (0, false)))) = some (r1, r2) := h
  clear h
  replace H := Option.bind_eq_some_iff.mp H
  obtain ⟨t119, A30, H⟩ := H
  replace H : (if t119 = true then (some (Go.bits .andNot .u16 a0 (IntKind.u16.wrap (a1 - 1)), true)) else (some (0, false))) = some (r1, r2) := H
  have A3 := Aside0.mk A30
  clear A30
  by_cases c4 : t119 = true
  · subst c4
    have H1 : (some (Go.bits .andNot .u16 a0 (IntKind.u16.wrap (a1 - 1)), true)) = some (r1, r2) := by rw [if_pos rfl] at H; exact H
    clear H
    have H := H1
    clear H1
    simp only [Option.some.injEq, Prod.mk.injEq] at H
    obtain ⟨rfl, rfl⟩ := H
    go_enter Try.func56, Try.ntmps56
    go_wp2_with (first | ((with_reducible refine gate_callee (f := 38) rfl ?_); refine goesL_ (some 7) rfl rfl Try.func38 (by kernel_rfl) rfl #[.int .u16 a1] rfl (by (try simp only [List.map_toArray, List.map_cons, List.map_nil]); first | done | rfl | (simp only [List.length_drop, List.length_take]; rfl)) ?_; (with_reducible refine (bits_IsPower_uint16.calls a1 true _ A3.out).mono ?_); rintro e w' ⟨rfl, ⟨nd, rfl⟩⟩; refine ⟨_, rfl, ?_⟩))
    go_ret2
    exact ⟨by first | rfl | (simp; done) | (simp [*]; done), by repeat (first | exact Drawn0.refl _ | apply Drawn0.step)⟩
  · replace c4 := Bool.eq_false_iff.mpr c4
    subst c4
    have H1 : (some (0, false)) = some (r1, r2) := by rw [if_neg (show ¬ (false = true) by decide)] at H; exact H
    clear H
    have H := H1
    clear H1
    simp only [Option.some.injEq, Prod.mk.injEq] at H
    obtain ⟨rfl, rfl⟩ := H
    go_enter Try.func56, Try.ntmps56
    go_wp2_with (first | ((with_reducible refine gate_callee (f := 38) rfl ?_); refine goesL_ (some 7) rfl rfl Try.func38 (by kernel_rfl) rfl #[.int .u16 a1] rfl (by (try simp only [List.map_toArray, List.map_cons, List.map_nil]); first | done | rfl | (simp only [List.length_drop, List.length_take]; rfl)) ?_; (with_reducible refine (bits_IsPower_uint16.calls a1 false _ A3.out).mono ?_); rintro e w' ⟨rfl, ⟨nd, rfl⟩⟩; refine ⟨_, rfl, ?_⟩))
    go_ret2
    exact ⟨by first | rfl | (simp; done) | (simp [*]; done), by repeat (first | exact Drawn0.refl _ | apply Drawn0.step)⟩

/-! ### bits_Up_uint16: function 50 -/
def bits_Up_uint16.j0 : Nat → Int → Int → Bool → Bool → Option (Int × Bool)
  | 0, _, _, _, _ => none
  | k + 1, x1, x6, x7, x20 => if x20 = true then (some (x6, x7)) else (if (IntKind.u16.wrap (x6 + x1)) = 0 then (some (0, false)) else (some (IntKind.u16.wrap (x6 + x1), true)))
def bits_Up_uint16.f (k : Nat) (a0 : Int) (a1 : Int) : Option (Int × Bool) := (bits_Down_uint16.f a0 a1).bind fun bt120 => (if bt120.2 = true then (bits_Up_uint16.j0 k a1 bt120.1 bt120.2 (bt120.1 == a0)) else (bits_Up_uint16.j0 k a1 bt120.1 bt120.2 true))
theorem bits_Up_uint16.mono_l : ∀ k, (∀ y0 y1 y2 y3, LeO (bits_Up_uint16.j0 k y0 y1 y2 y3) (bits_Up_uint16.j0 (k + 1) y0 y1 y2 y3))
  | 0 => fun _ _ _ _ r h => by simp [bits_Up_uint16.j0] at h
  | k + 1 => by
    have ih0 := bits_Up_uint16.mono_l k
    · intro y0 y1 y2 y3
      unfold bits_Up_uint16.j0
      repeat' first
      | (with_reducible exact ih0 _ _ _ _)
      | (with_reducible exact LeO.refl _)
      | (with_reducible exact LeO.none _)
      | (with_reducible refine LeO.ite ?_ ?_)
      | (with_reducible refine LeO.bind ?_ (fun _ => ?_))
      | exact ih0 _ _ _ _
      | exact LeO.none _
      | refine LeO.ite ?_ ?_
      | refine LeO.bind ?_ (fun _ => ?_)
theorem bits_Up_uint16.mono : ∀ a0 a1 k, LeO (bits_Up_uint16.f k a0 a1) (bits_Up_uint16.f (k + 1) a0 a1) := by
  intro a0 a1 k
  have ih0 := bits_Up_uint16.mono_l k
  unfold bits_Up_uint16.f
  repeat' first
      | (with_reducible exact ih0 _ _ _ _)
      | (with_reducible exact LeO.refl _)
      | (with_reducible exact LeO.none _)
      | (with_reducible refine LeO.ite ?_ ?_)
      | (with_reducible refine LeO.bind ?_ (fun _ => ?_))
      | exact ih0 _ _ _ _
      | exact LeO.none _
      | refine LeO.ite ?_ ?_
      | refine LeO.bind ?_ (fun _ => ?_)
set_option maxHeartbeats 8000000 in
set_option maxRecDepth 100000 in
theorem bits_Up_uint16.calls (k : Nat) (a0 : Int) (a1 : Int) (r1 : Int) (r2 : Bool) (w : World) (h : bits_Up_uint16.f k a0 a1 = some (r1, r2)) :
    Calls Try.prog 50 #[.int .u16 a0, .int .u16 a1] w fun e w' => e = .returned (.tuple #[.int .u16 r1, .bool r2]) ∧ Drawn0 w w' := by
  have H : ((bits_Down_uint16.f a0 a1).bind fun bt120 => (if bt120.2 = true then (bits_Up_uint16.j0 k a1 bt120.1 bt120.2 (bt120.1 == a0)) else (bits_Up_uint16.j0 k a1 bt120.1 bt120.2 true))) = some (r1, r2) := h
  clear h
  replace H := Option.bind_eq_some_iff.mp H
  obtain ⟨⟨t120, t121⟩, A30, H⟩ := H
  replace H : (if t121 = true then (bits_Up_uint16.j0 k a1 t120 t121 (t120 == a0)) else (bits_Up_uint16.j0 k a1 t120 t121 true)) = some (r1, r2) := H
  have A3 := Aside0.mk A30
  clear A30
  have HC4 := Aside0.mk H
  clear H
  go_enter Try.func50, Try.ntmps50
  go_upto_region 2 with (first | ((with_reducible refine gate_callee (f := 56) rfl ?_); refine goesL_ (some 11) rfl rfl Try.func56 (by kernel_rfl) rfl #[.int .u16 a0, .int .u16 a1] rfl (by (try simp only [List.map_toArray, List.map_cons, List.map_nil]); first | done | rfl | (simp only [List.length_drop, List.length_take]; rfl)) ?_; (with_reducible refine (bits_Down_uint16.calls a0 a1 t120 t121 _ A3.out).mono ?_); rintro e w' ⟨rfl, ⟨nd, rfl⟩⟩; refine ⟨_, rfl, ?_⟩))
  (try simp only [Act.put, List.setIfInBounds_toArray, List.set_cons_zero, List.set_cons_succ])
  go_cut [20] (fun v20 wc => ∃ (kq : Nat) (x20_3 : Bool), v20 = .bool x20_3 ∧ Aside0 (bits_Up_uint16.j0 kq a1 t120 t121 x20_3 = some (r1, r2)) ∧ Aside0 (kq ≤ k) ∧ Drawn0 w wc)
  case first =>
    have H := HC4.out
    clear HC4
    by_cases c5 : t121 = true
    · subst c5
      have H1 : (bits_Up_uint16.j0 k a1 t120 true (t120 == a0)) = some (r1, r2) := by rw [if_pos rfl] at H; exact H
      clear H
      have H := H1
      clear H1
      have H' := Aside0.mk H
      clear H
      go_wp2
      go_meet
      case rel => exact ⟨_, ((t120 == a0)), (by first | rfl | (simp; done) | (simp [*]; done)), H', ⟨by first | omega | exact Nat.le_refl _⟩, by repeat (first | exact Drawn0.refl _ | apply Drawn0.step)⟩
    · replace c5 := Bool.eq_false_iff.mpr c5
      subst c5
      have H1 : (bits_Up_uint16.j0 k a1 t120 false true) = some (r1, r2) := by rw [if_neg (show ¬ (false = true) by decide)] at H; exact H
      clear H
      have H := H1
      clear H1
      have H' := Aside0.mk H
      clear H
      go_wp2
      go_meet
      case rel => exact ⟨_, (true), (by first | rfl | (simp; done) | (simp [*]; done)), H', ⟨by first | omega | exact Nat.le_refl _⟩, by repeat (first | exact Drawn0.refl _ | apply Drawn0.step)⟩
  case rest =>
    clear HC4
    try clear p2
    try clear c5
    obtain ⟨kq, x20_3, rfl, HA, HJ3, ⟨mc3, rfl⟩⟩ := hcut
    cases kq with
    | zero => exact absurd HA.out (by simp [bits_Up_uint16.j0])
    | succ kj3 =>
      have H := HA.out
      clear HA
      simp only [bits_Up_uint16.j0] at H
      by_cases c6 : x20_3 = true
      · subst c6
        have H1 : (some (t120, t121)) = some (r1, r2) := by rw [if_pos rfl] at H; exact H
        clear H
        have H := H1
        clear H1
        simp only [Option.some.injEq, Prod.mk.injEq] at H
        obtain ⟨rfl, rfl⟩ := H
        go_wp2
        go_ret2
        exact ⟨by first | rfl | (simp; done) | (simp [*]; done), by repeat (first | exact Drawn0.refl _ | apply Drawn0.step)⟩
      · replace c6 := Bool.eq_false_iff.mpr c6
        subst c6
        have H1 : (if (IntKind.u16.wrap (t120 + a1)) = 0 then (some (0, false)) else (some (IntKind.u16.wrap (t120 + a1), true))) = some (r1, r2) := by rw [if_neg (show ¬ (false = true) by decide)] at H; exact H
        clear H
        have H := H1
        clear H1
        by_cases c7 : (IntKind.u16.wrap (t120 + a1)) = 0
        · rw [if_pos c7] at H
          have c7b0 : ((IntKind.u16.wrap (t120 + a1)) == 0) = true := beq_iff_eq.mpr c7
          have c7b1 : ((IntKind.u16.wrap (t120 + a1)) != 0) = false := bne_eq_false_iff_eq.mpr c7
          clear c7
          simp only [Option.some.injEq, Prod.mk.injEq] at H
          obtain ⟨rfl, rfl⟩ := H
          go_wp2
          go_ret2
          exact ⟨by first | rfl | (simp; done) | (simp [*]; done), by repeat (first | exact Drawn0.refl _ | apply Drawn0.step)⟩
        · rw [if_neg c7] at H
          have c7b0 : ((IntKind.u16.wrap (t120 + a1)) == 0) = false := beq_eq_false_iff_ne.mpr c7
          have c7b1 : ((IntKind.u16.wrap (t120 + a1)) != 0) = true := bne_iff_ne.mpr c7
          simp only [Option.some.injEq, Prod.mk.injEq] at H
          obtain ⟨rfl, rfl⟩ := H
          go_wp2
          go_ret2
          exact ⟨by first | rfl | (simp; done) | (simp [*]; done), by repeat (first | exact Drawn0.refl _ | apply Drawn0.step)⟩

/-! ### croftlaw1_multiples_uint16: function 11 -/
def croftlaw1_multiples_uint16.j0 : Nat → Int → Int → Int → Int → Int → Bool → Option (Bool)
  | 0, _, _, _, _, _, _ => none
  | k + 1, x0, x1, x2, x7, x8, x42 => if x42 = true then (some false) else ((bits_Down_uint16.f (IntKind.u16.wrap (x0)) (IntKind.u16.wrap (x1))).bind fun bt128 => ((croftref1_Down.f k x7 x8 x2).bind fun bt130 => (if (IntKind.u64.wrap (bt128.1)) = bt130.1 then (some (bt128.2 == bt130.2)) else (some false))))
def croftlaw1_multiples_uint16.f (k : Nat) (a0 : Int) (a1 : Int) (a2 : Int) : Option (Bool) := (croftref1_Cut.f a0 a2).bind fun t122 => ((croftref1_Cut.f a1 a2).bind fun t123 => ((bits_Up_uint16.f k (IntKind.u16.wrap (a0)) (IntKind.u16.wrap (a1))).bind fun bt124 => ((croftref1_Up.f k t122 t123 a2).bind fun bt126 => (if (IntKind.u64.wrap (bt124.1)) = bt126.1 then (croftlaw1_multiples_uint16.j0 k a0 a1 a2 t122 t123 (bt124.2 != bt126.2)) else (croftlaw1_multiples_uint16.j0 k a0 a1 a2 t122 t123 true)))))
theorem croftlaw1_multiples_uint16.mono_l : ∀ k, (∀ y0 y1 y2 y3 y4 y5, LeO (croftlaw1_multiples_uint16.j0 k y0 y1 y2 y3 y4 y5) (croftlaw1_multiples_uint16.j0 (k + 1) y0 y1 y2 y3 y4 y5))
  | 0 => fun _ _ _ _ _ _ r h => by simp [croftlaw1_multiples_uint16.j0] at h
  | k + 1 => by
    have ih0 := croftlaw1_multiples_uint16.mono_l k
    · intro y0 y1 y2 y3 y4 y5
      unfold croftlaw1_multiples_uint16.j0
      repeat' first
      | (with_reducible exact ih0 _ _ _ _ _ _)
      | (with_reducible exact bits_Up_uint16.mono _ _ _)
      | (with_reducible exact croftref1_Down.mono _ _ _ _)
      | (with_reducible exact croftref1_Up.mono _ _ _ _)
      | (with_reducible exact LeO.refl _)
      | (with_reducible exact LeO.none _)
      | (with_reducible refine LeO.ite ?_ ?_)
      | (with_reducible refine LeO.bind ?_ (fun _ => ?_))
      | exact ih0 _ _ _ _ _ _
      | exact bits_Up_uint16.mono _ _ _
      | exact croftref1_Down.mono _ _ _ _
      | exact croftref1_Up.mono _ _ _ _
      | exact LeO.none _
      | refine LeO.ite ?_ ?_
      | refine LeO.bind ?_ (fun _ => ?_)
theorem croftlaw1_multiples_uint16.mono : ∀ a0 a1 a2 k, LeO (croftlaw1_multiples_uint16.f k a0 a1 a2) (croftlaw1_multiples_uint16.f (k + 1) a0 a1 a2) := by
  intro a0 a1 a2 k
  have ih0 := croftlaw1_multiples_uint16.mono_l k
  unfold croftlaw1_multiples_uint16.f
  repeat' first
      | (with_reducible exact ih0 _ _ _ _ _ _)
      | (with_reducible exact bits_Up_uint16.mono _ _ _)
      | (with_reducible exact croftref1_Down.mono _ _ _ _)
      | (with_reducible exact croftref1_Up.mono _ _ _ _)
      | (with_reducible exact LeO.refl _)
      | (with_reducible exact LeO.none _)
      | (with_reducible refine LeO.ite ?_ ?_)
      | (with_reducible refine LeO.bind ?_ (fun _ => ?_))
      | exact ih0 _ _ _ _ _ _
      | exact bits_Up_uint16.mono _ _ _
      | exact croftref1_Down.mono _ _ _ _
      | exact croftref1_Up.mono _ _ _ _
      | exact LeO.none _
      | refine LeO.ite ?_ ?_
      | refine LeO.bind ?_ (fun _ => ?_)
set_option maxHeartbeats 8000000 in
set_option maxRecDepth 100000 in
theorem croftlaw1_multiples_uint16.calls (k : Nat) (a0 : Int) (a1 : Int) (a2 : Int) (r : Bool) (w : World) (h : croftlaw1_multiples_uint16.f k a0 a1 a2 = some r) :
    Calls Try.prog 11 #[.int .u64 a0, .int .u64 a1, .int .i64 a2] w fun e w' => e = .returned (.bool r) ∧ Drawn0 w w' := by
  have H : ((croftref1_Cut.f a0 a2).bind fun t122 => ((croftref1_Cut.f a1 a2).bind fun t123 => ((bits_Up_uint16.f k (IntKind.u16.wrap (a0)) (IntKind.u16.wrap (a1))).bind fun bt124 => ((croftref1_Up.f k t122 t123 a2).bind fun bt126 => (if (IntKind.u64.wrap (bt124.1)) = bt126.1 then (croftlaw1_multiples_uint16.j0 k a0 a1 a2 t122 t123 (bt124.2 != bt126.2)) else (croftlaw1_multiples_uint16.j0 k a0 a1 a2 t122 t123 true)))))) = some r := h
  clear h
  replace H := Option.bind_eq_some_iff.mp H
  obtain ⟨t122, A40, H⟩ := H
  replace H : ((croftref1_Cut.f a1 a2).bind fun t123 => ((bits_Up_uint16.f k (IntKind.u16.wrap (a0)) (IntKind.u16.wrap (a1))).bind fun bt124 => ((croftref1_Up.f k t122 t123 a2).bind fun bt126 => (if (IntKind.u64.wrap (bt124.1)) = bt126.1 then (croftlaw1_multiples_uint16.j0 k a0 a1 a2 t122 t123 (bt124.2 != bt126.2)) else (croftlaw1_multiples_uint16.j0 k a0 a1 a2 t122 t123 true))))) = some r := H
  have A4 := Aside0.mk A40
  clear A40
  replace H := Option.bind_eq_some_iff.mp H
  obtain ⟨t123, A50, H⟩ := H
  replace H : ((bits_Up_uint16.f k (IntKind.u16.wrap (a0)) (IntKind.u16.wrap (a1))).bind fun bt124 => ((croftref1_Up.f k t122 t123 a2).bind fun bt126 => (if (IntKind.u64.wrap (bt124.1)) = bt126.1 then (croftlaw1_multiples_uint16.j0 k a0 a1 a2 t122 t123 (bt124.2 != bt126.2)) else (croftlaw1_multiples_uint16.j0 k a0 a1 a2 t122 t123 true)))) = some r := H
  have A5 := Aside0.mk A50
  clear A50
  replace H := Option.bind_eq_some_iff.mp H
  obtain ⟨⟨t124, t125⟩, A60, H⟩ := H
  replace H : ((croftref1_Up.f k t122 t123 a2).bind fun bt126 => (if (IntKind.u64.wrap (t124)) = bt126.1 then (croftlaw1_multiples_uint16.j0 k a0 a1 a2 t122 t123 (t125 != bt126.2)) else (croftlaw1_multiples_uint16.j0 k a0 a1 a2 t122 t123 true))) = some r := H
  have A6 := Aside0.mk A60
  clear A60
  replace H := Option.bind_eq_some_iff.mp H
  obtain ⟨⟨t126, t127⟩, A70, H⟩ := H
  replace H : (if (IntKind.u64.wrap (t124)) = t126 then (croftlaw1_multiples_uint16.j0 k a0 a1 a2 t122 t123 (t125 != t127)) else (croftlaw1_multiples_uint16.j0 k a0 a1 a2 t122 t123 true)) = some r := H
  have A7 := Aside0.mk A70
  clear A70
  have HC8 := Aside0.mk H
  clear H
  go_enter Try.func11, Try.ntmps11
  go_upto_region 5 with (first | ((with_reducible refine gate_callee (f := 52) rfl ?_); refine goesL_ (some 15) rfl rfl Try.func52 (by kernel_rfl) rfl #[.int .u64 a0, .int .i64 a2] rfl (by (try simp only [List.map_toArray, List.map_cons, List.map_nil]); first | done | rfl | (simp only [List.length_drop, List.length_take]; rfl)) ?_; (with_reducible refine (croftref1_Cut.calls a0 a2 t122 _ A4.out).mono ?_); rintro e w' ⟨rfl, ⟨nd, rfl⟩⟩; refine ⟨_, rfl, ?_⟩) | ((with_reducible refine gate_callee (f := 52) rfl ?_); refine goesL_ (some 18) rfl rfl Try.func52 (by kernel_rfl) rfl #[.int .u64 a1, .int .i64 a2] rfl (by (try simp only [List.map_toArray, List.map_cons, List.map_nil]); first | done | rfl | (simp only [List.length_drop, List.length_take]; rfl)) ?_; (with_reducible refine (croftref1_Cut.calls a1 a2 t123 _ A5.out).mono ?_); rintro e w' ⟨rfl, ⟨nd, rfl⟩⟩; refine ⟨_, rfl, ?_⟩) | ((with_reducible refine gate_callee (f := 50) rfl ?_); refine goesL_ (some 24) rfl rfl Try.func50 (by kernel_rfl) rfl #[.int .u16 (IntKind.u16.wrap (a0)), .int .u16 (IntKind.u16.wrap (a1))] rfl (by (try simp only [List.map_toArray, List.map_cons, List.map_nil]); first | done | rfl | (simp only [List.length_drop, List.length_take]; rfl)) ?_; (with_reducible refine (bits_Up_uint16.calls k (IntKind.u16.wrap (a0)) (IntKind.u16.wrap (a1)) t124 t125 _ A6.out).mono ?_); rintro e w' ⟨rfl, ⟨nd, rfl⟩⟩; refine ⟨_, rfl, ?_⟩) | ((with_reducible refine gate_callee (f := 53) rfl ?_); refine goesL_ (some 31) rfl rfl Try.func53 (by kernel_rfl) rfl #[.int .u64 t122, .int .u64 t123, .int .i64 a2] rfl (by (try simp only [List.map_toArray, List.map_cons, List.map_nil]); first | done | rfl | (simp only [List.length_drop, List.length_take]; rfl)) ?_; (with_reducible refine (croftref1_Up.calls k t122 t123 a2 t126 t127 _ A7.out).mono ?_); rintro e w' ⟨rfl, ⟨nd, rfl⟩⟩; refine ⟨_, rfl, ?_⟩))
  (try simp only [Act.put, List.setIfInBounds_toArray, List.set_cons_zero, List.set_cons_succ])
  go_cut [42] (fun v42 wc => ∃ (kq : Nat) (x42_7 : Bool), v42 = .bool x42_7 ∧ Aside0 (croftlaw1_multiples_uint16.j0 kq a0 a1 a2 t122 t123 x42_7 = some r) ∧ Aside0 (kq ≤ k) ∧ Drawn0 w wc)
  case first =>
    have H := HC8.out
    clear HC8
    by_cases c9 : (IntKind.u64.wrap (t124)) = t126
    · rw [if_pos c9] at H
      have c9b0 : ((IntKind.u64.wrap (t124)) == t126) = true := beq_iff_eq.mpr c9
      have c9b1 : ((IntKind.u64.wrap (t124)) != t126) = false := bne_eq_false_iff_eq.mpr c9
      clear c9
      (first | rw [c9b0] | (simp only [i64_w, i32_w]; rw [c9b0]) | skip)
      have H' := Aside0.mk H
      clear H
      go_wp2
      go_meet
      case rel => exact ⟨_, ((t125 != t127)), (by first | rfl | (simp; done) | (simp [*]; done)), H', ⟨by first | omega | exact Nat.le_refl _⟩, by repeat (first | exact Drawn0.refl _ | apply Drawn0.step)⟩
    · rw [if_neg c9] at H
      have c9b0 : ((IntKind.u64.wrap (t124)) == t126) = false := beq_eq_false_iff_ne.mpr c9
      have c9b1 : ((IntKind.u64.wrap (t124)) != t126) = true := bne_iff_ne.mpr c9
      (first | rw [c9b0] | (simp only [i64_w, i32_w]; rw [c9b0]) | skip)
      have H' := Aside0.mk H
      clear H
      go_wp2
      go_meet
      case rel => exact ⟨_, (true), (by first | rfl | (simp; done) | (simp [*]; done)), H', ⟨by first | omega | exact Nat.le_refl _⟩, by repeat (first | exact Drawn0.refl _ | apply Drawn0.step)⟩
  case rest =>
    clear HC8
    try clear c1
    try clear p2
    try clear c5
    try clear c9
    try clear c9b0
    try clear c9b1
    obtain ⟨kq, x42_7, rfl, HA, HJ7, ⟨mc7, rfl⟩⟩ := hcut
    cases kq with
    | zero => exact absurd HA.out (by simp [croftlaw1_multiples_uint16.j0])
    | succ kj7 =>
      have H := HA.out
      clear HA
      simp only [croftlaw1_multiples_uint16.j0] at H
      by_cases c10 : x42_7 = true
      · subst c10
        have H1 : (some false) = some r := by rw [if_pos rfl] at H; exact H
        clear H
        have H := H1
        clear H1
        obtain rfl := Option.some.inj H
        go_wp2
        go_ret
        exact ⟨by first | rfl | (simp; done) | (simp [*]; done), by repeat (first | exact Drawn0.refl _ | apply Drawn0.step)⟩
      · replace c10 := Bool.eq_false_iff.mpr c10
        subst c10
        have H1 : ((bits_Down_uint16.f (IntKind.u16.wrap (a0)) (IntKind.u16.wrap (a1))).bind fun bt128 => ((croftref1_Down.f kj7 t122 t123 a2).bind fun bt130 => (if (IntKind.u64.wrap (bt128.1)) = bt130.1 then (some (bt128.2 == bt130.2)) else (some false)))) = some r := by rw [if_neg (show ¬ (false = true) by decide)] at H; exact H
        clear H
        have H := H1
        clear H1
        replace H := Option.bind_eq_some_iff.mp H
        obtain ⟨⟨t128, t129⟩, A110, H⟩ := H
        replace H : ((croftref1_Down.f kj7 t122 t123 a2).bind fun bt130 => (if (IntKind.u64.wrap (t128)) = bt130.1 then (some (t129 == bt130.2)) else (some false))) = some r := H
        have A11 := Aside0.mk A110
        clear A110
        replace H := Option.bind_eq_some_iff.mp H
        obtain ⟨⟨t130, t131⟩, A120, H⟩ := H
        replace H : (if (IntKind.u64.wrap (t128)) = t130 then (some (t129 == t131)) else (some false)) = some r := H
        have A12 := Aside0.mk A120
        clear A120
        by_cases c13 : (IntKind.u64.wrap (t128)) = t130
        · rw [if_pos c13] at H
          have c13b0 : ((IntKind.u64.wrap (t128)) == t130) = true := beq_iff_eq.mpr c13
          have c13b1 : ((IntKind.u64.wrap (t128)) != t130) = false := bne_eq_false_iff_eq.mpr c13
          clear c13
          obtain rfl := Option.some.inj H
          go_wp2_with (first | ((with_reducible refine gate_callee (f := 56) rfl ?_); refine goesL_ (some 48) rfl rfl Try.func56 (by kernel_rfl) rfl #[.int .u16 (IntKind.u16.wrap (a0)), .int .u16 (IntKind.u16.wrap (a1))] rfl (by (try simp only [List.map_toArray, List.map_cons, List.map_nil]); first | done | rfl | (simp only [List.length_drop, List.length_take]; rfl)) ?_; (with_reducible refine (bits_Down_uint16.calls (IntKind.u16.wrap (a0)) (IntKind.u16.wrap (a1)) t128 t129 _ A11.out).mono ?_); rintro e w' ⟨rfl, ⟨nd, rfl⟩⟩; refine ⟨_, rfl, ?_⟩) | ((with_reducible refine gate_callee (f := 55) rfl ?_); refine goesL_ (some 55) rfl rfl Try.func55 (by kernel_rfl) rfl #[.int .u64 t122, .int .u64 t123, .int .i64 a2] rfl (by (try simp only [List.map_toArray, List.map_cons, List.map_nil]); first | done | rfl | (simp only [List.length_drop, List.length_take]; rfl)) ?_; (with_reducible refine (croftref1_Down.calls kj7 t122 t123 a2 t130 t131 _ A12.out).mono ?_); rintro e w' ⟨rfl, ⟨nd, rfl⟩⟩; refine ⟨_, rfl, ?_⟩))
          go_ret
          exact ⟨by first | rfl | (simp; done) | (simp [*]; done), by repeat (first | exact Drawn0.refl _ | apply Drawn0.step)⟩
        · rw [if_neg c13] at H
          have c13b0 : ((IntKind.u64.wrap (t128)) == t130) = false := beq_eq_false_iff_ne.mpr c13
          have c13b1 : ((IntKind.u64.wrap (t128)) != t130) = true := bne_iff_ne.mpr c13
          obtain rfl := Option.some.inj H
          go_wp2_with (first | ((with_reducible refine gate_callee (f := 56) rfl ?_); refine goesL_ (some 48) rfl rfl Try.func56 (by kernel_rfl) rfl #[.int .u16 (IntKind.u16.wrap (a0)), .int .u16 (IntKind.u16.wrap (a1))] rfl (by (try simp only [List.map_toArray, List.map_cons, List.map_nil]); first | done | rfl | (simp only [List.length_drop, List.length_take]; rfl)) ?_; (with_reducible refine (bits_Down_uint16.calls (IntKind.u16.wrap (a0)) (IntKind.u16.wrap (a1)) t128 t129 _ A11.out).mono ?_); rintro e w' ⟨rfl, ⟨nd, rfl⟩⟩; refine ⟨_, rfl, ?_⟩) | ((with_reducible refine gate_callee (f := 55) rfl ?_); refine goesL_ (some 55) rfl rfl Try.func55 (by kernel_rfl) rfl #[.int .u64 t122, .int .u64 t123, .int .i64 a2] rfl (by (try simp only [List.map_toArray, List.map_cons, List.map_nil]); first | done | rfl | (simp only [List.length_drop, List.length_take]; rfl)) ?_; (with_reducible refine (croftref1_Down.calls kj7 t122 t123 a2 t130 t131 _ A12.out).mono ?_); rintro e w' ⟨rfl, ⟨nd, rfl⟩⟩; refine ⟨_, rfl, ?_⟩))
          go_ret
          exact ⟨by first | rfl | (simp; done) | (simp [*]; done), by repeat (first | exact Drawn0.refl _ | apply Drawn0.step)⟩

/-! ### bits_IsPower_uint32: function 39 -/
def bits_IsPower_uint32.f (a0 : Int) : Option (Bool) := if a0 = 0 then (some false) else (some ((Go.bits .and .u32 a0 ((a0 - 1) % 4294967296)) == 0))
set_option maxHeartbeats 8000000 in
set_option maxRecDepth 100000 in
theorem bits_IsPower_uint32.calls (a0 : Int) (r : Bool) (w : World) (h : bits_IsPower_uint32.f a0 = some r) :
    Calls Try.prog 39 #[.int .u32 a0] w fun e w' => e = .returned (.bool r) ∧ Drawn0 w w' := by
  have H : (if a0 = 0 then (some false) else (some ((Go.bits .and .u32 a0 ((a0 - 1) % 4294967296)) == 0))) = some r := h
  clear h
  by_cases c2 : a0 = 0
  · rw [if_pos c2] at H
    have c2b0 : (a0 == 0) = true := beq_iff_eq.mpr c2
    have c2b1 : (a0 != 0) = false := bne_eq_false_iff_eq.mpr c2
    clear c2
    obtain rfl := Option.some.inj H
    go_enter Try.func39, Try.ntmps39
    go_wp2
    go_ret
    exact ⟨by first | rfl | (simp; done) | (simp [*]; done), by repeat (first | exact Drawn0.refl _ | apply Drawn0.step)⟩
  · rw [if_neg c2] at H
    have c2b0 : (a0 == 0) = false := beq_eq_false_iff_ne.mpr c2
    have c2b1 : (a0 != 0) = true := bne_iff_ne.mpr c2
    obtain rfl := Option.some.inj H
    go_enter Try.func39, Try.ntmps39
    go_wp2
    go_ret
    exact ⟨by first | rfl | (simp; done) | (simp [*]; done), by repeat (first | exact Drawn0.refl _ | apply Drawn0.step)⟩

/-! ### bits_Down_uint32: function 51 -/
def bits_Down_uint32.f (a0 : Int) (a1 : Int) : Option (Int × Bool) := (bits_IsPower_uint32.f a1).bind fun t132 => (if t132 = true then (some (Go.bits .andNot .u32 a0 ((a1 - 1) % 4294967296), true)) else (some (0, false)))
set_option maxHeartbeats 8000000 in
set_option maxRecDepth 100000 in
theorem bits_Down_uint32.calls (a0 : Int) (a1 : Int) (r1 : Int) (r2 : Bool) (w : World) (h : bits_Down_uint32.f a0 a1 = some (r1, r2)) :
    Calls Try.prog 51 #[.int .u32 a0, .int .u32 a1] w fun e w' => e = .returned (.tuple #[.int .u32 r1, .bool r2]) ∧ Drawn0 w w' := by
  have H : ((bits_IsPower_uint32.f a1).bind fun t132 => (if t132 = true then (some (Go.bits .andNot .u32 a0 ((a1 - 1) % 4294967296), true)) else (some (0, false)))) = some (r1, r2) := h
  clear h
  replace H := Option.bind_eq_some_iff.mp H
  obtain ⟨t132, A30, H⟩ := H
  replace H : (if t132 = true then (some (Go.bits .andNot .u32 a0 ((a1 - 1) % 4294967296), true)) else (some (0, false))) = some (r1, r2) := H
  have A3 := Aside0.mk A30
  clear A30
  by_cases c4 : t132 = true
  · subst c4
    have H1 : (some (Go.bits .andNot .u32 a0 ((a1 - 1) % 4294967296), true)) = some (r1, r2) := by rw [if_pos rfl] at H; exact H
    clear H
    have H := H1
    clear H1
    simp only [Option.some.injEq, Prod.mk.injEq] at H
    obtain ⟨rfl, rfl⟩ := H
    go_enter Try.func51, Try.ntmps51
    go_wp2_with (first | ((with_reducible refine gate_callee (f := 39) rfl ?_); refine goesL_ (some 7) rfl rfl Try.func39 (by kernel_rfl) rfl #[.int .u32 a1] rfl (by (try simp only [List.map_toArray, List.map_cons, List.map_nil]); first | done | rfl | (simp only [List.length_drop, List.length_take]; rfl)) ?_; (with_reducible refine (bits_IsPower_uint32.calls a1 true _ A3.out).mono ?_); rintro e w' ⟨rfl, ⟨nd, rfl⟩⟩; refine ⟨_, rfl, ?_⟩))
    go_ret2
    exact ⟨by first | rfl | (simp; done) | (simp [*]; done), by repeat (first | exact Drawn0.refl _ | apply Drawn0.step)⟩
  · replace c4 := Bool.eq_false_iff.mpr c4
    subst c4
    have H1 : (some (0, false)) = some (r1, r2) := by rw [if_neg (show ¬ (false = true) by decide)] at H; exact H
    clear H
    have H := H1
    clear H1
    simp only [Option.some.injEq, Prod.mk.injEq] at H
    obtain ⟨rfl, rfl⟩ := H
    go_enter Try.func51, Try.ntmps51
    go_wp2_with (first | ((with_reducible refine gate_callee (f := 39) rfl ?_); refine goesL_ (some 7) rfl rfl Try.func39 (by kernel_rfl) rfl #[.int .u32 a1] rfl (by (try simp only [List.map_toArray, List.map_cons, List.map_nil]); first | done | rfl | (simp only [List.length_drop, List.length_take]; rfl)) ?_; (with_reducible refine (bits_IsPower_uint32.calls a1 false _ A3.out).mono ?_); rintro e w' ⟨rfl, ⟨nd, rfl⟩⟩; refine ⟨_, rfl, ?_⟩))
    go_ret2
    exact ⟨by first | rfl | (simp; done) | (simp [*]; done), by repeat (first | exact Drawn0.refl _ | apply Drawn0.step)⟩

/-! ### bits_Up_uint32: function 57 -/
def bits_Up_uint32.j0 : Nat → Int → Int → Bool → Bool → Option (Int × Bool)
  | 0, _, _, _, _ => none
  | k + 1, x1, x6, x7, x20 => if x20 = true then (some (x6, x7)) else (if ((x6 + x1) % 4294967296) = 0 then (some (0, false)) else (some ((x6 + x1) % 4294967296, true)))
def bits_Up_uint32.f (k : Nat) (a0 : Int) (a1 : Int) : Option (Int × Bool) := (bits_Down_uint32.f a0 a1).bind fun bt133 => (if bt133.2 = true then (bits_Up_uint32.j0 k a1 bt133.1 bt133.2 (bt133.1 == a0)) else (bits_Up_uint32.j0 k a1 bt133.1 bt133.2 true))
theorem bits_Up_uint32.mono_l : ∀ k, (∀ y0 y1 y2 y3, LeO (bits_Up_uint32.j0 k y0 y1 y2 y3) (bits_Up_uint32.j0 (k + 1) y0 y1 y2 y3))
  | 0 => fun _ _ _ _ r h => by simp [bits_Up_uint32.j0] at h
  | k + 1 => by
    have ih0 := bits_Up_uint32.mono_l k
    · intro y0 y1 y2 y3
      unfold bits_Up_uint32.j0
      repeat' first
      | (with_reducible exact ih0 _ _ _ _)
      | (with_reducible exact LeO.refl _)
      | (with_reducible exact LeO.none _)
      | (with_reducible refine LeO.ite ?_ ?_)
      | (with_reducible refine LeO.bind ?_ (fun _ => ?_))
      | exact ih0 _ _ _ _
      | exact LeO.none _
      | refine LeO.ite ?_ ?_
      | refine LeO.bind ?_ (fun _ => ?_)
theorem bits_Up_uint32.mono : ∀ a0 a1 k, LeO (bits_Up_uint32.f k a0 a1) (bits_Up_uint32.f (k + 1) a0 a1) := by
  intro a0 a1 k
  have ih0 := bits_Up_uint32.mono_l k
  unfold bits_Up_uint32.f
  repeat' first
      | (with_reducible exact ih0 _ _ _ _)
      | (with_reducible exact LeO.refl _)
      | (with_reducible exact LeO.none _)
      | (with_reducible refine LeO.ite ?_ ?_)
      | (with_reducible refine LeO.bind ?_ (fun _ => ?_))
      | exact ih0 _ _ _ _
      | exact LeO.none _
      | refine LeO.ite ?_ ?_
      | refine LeO.bind ?_ (fun _ => ?_)
set_option maxHeartbeats 8000000 in
set_option maxRecDepth 100000 in
theorem bits_Up_uint32.calls (k : Nat) (a0 : Int) (a1 : Int) (r1 : Int) (r2 : Bool) (w : World) (h : bits_Up_uint32.f k a0 a1 = some (r1, r2)) :
    Calls Try.prog 57 #[.int .u32 a0, .int .u32 a1] w fun e w' => e = .returned (.tuple #[.int .u32 r1, .bool r2]) ∧ Drawn0 w w' := by
  have H : ((bits_Down_uint32.f a0 a1).bind fun bt133 => (if bt133.2 = true then (bits_Up_uint32.j0 k a1 bt133.1 bt133.2 (bt133.1 == a0)) else (bits_Up_uint32.j0 k a1 bt133.1 bt133.2 true))) = some (r1, r2) := h
  clear h
  replace H := Option.bind_eq_some_iff.mp H
  obtain ⟨⟨t133, t134⟩, A30, H⟩ := H
  replace H : (if t134 = true then (bits_Up_uint32.j0 k a1 t133 t134 (t133 == a0)) else (bits_Up_uint32.j0 k a1 t133 t134 true)) = some (r1, r2) := H
  have A3 := Aside0.mk A30
  clear A30
  have HC4 := Aside0.mk H
  clear H
  go_enter Try.func57, Try.ntmps57
  go_upto_region 2 with (first | ((with_reducible refine gate_callee (f := 51) rfl ?_); refine goesL_ (some 11) rfl rfl Try.func51 (by kernel_rfl) rfl #[.int .u32 a0, .int .u32 a1] rfl (by (try simp only [List.map_toArray, List.map_cons, List.map_nil]); first | done | rfl | (simp only [List.length_drop, List.length_take]; rfl)) ?_; (with_reducible refine (bits_Down_uint32.calls a0 a1 t133 t134 _ A3.out).mono ?_); rintro e w' ⟨rfl, ⟨nd, rfl⟩⟩; refine ⟨_, rfl, ?_⟩))
  (try simp only [Act.put, List.setIfInBounds_toArray, List.set_cons_zero, List.set_cons_succ])
  go_cut [20] (fun v20 wc => ∃ (kq : Nat) (x20_3 : Bool), v20 = .bool x20_3 ∧ Aside0 (bits_Up_uint32.j0 kq a1 t133 t134 x20_3 = some (r1, r2)) ∧ Aside0 (kq ≤ k) ∧ Drawn0 w wc)
  case first =>
    have H := HC4.out
    clear HC4
    by_cases c5 : t134 = true
    · subst c5
      have H1 : (bits_Up_uint32.j0 k a1 t133 true (t133 == a0)) = some (r1, r2) := by rw [if_pos rfl] at H; exact H
      clear H
      have H := H1
      clear H1
      have H' := Aside0.mk H
      clear H
      go_wp2
      go_meet
      case rel => exact ⟨_, ((t133 == a0)), (by first | rfl | (simp; done) | (simp [*]; done)), H', ⟨by first | omega | exact Nat.le_refl _⟩, by repeat (first | exact Drawn0.refl _ | apply Drawn0.step)⟩
    · replace c5 := Bool.eq_false_iff.mpr c5
      subst c5
      have H1 : (bits_Up_uint32.j0 k a1 t133 false true) = some (r1, r2) := by rw [if_neg (show ¬ (false = true) by decide)] at H; exact H
      clear H
      have H := H1
      clear H1
      have H' := Aside0.mk H
      clear H
      go_wp2
      go_meet
      case rel => exact ⟨_, (true), (by first | rfl | (simp; done) | (simp [*]; done)), H', ⟨by first | omega | exact Nat.le_refl _⟩, by repeat (first | exact Drawn0.refl _ | apply Drawn0.step)⟩
  case rest =>
    clear HC4
    try clear p2
    try clear c5
    obtain ⟨kq, x20_3, rfl, HA, HJ3, ⟨mc3, rfl⟩⟩ := hcut
    cases kq with
    | zero => exact absurd HA.out (by simp [bits_Up_uint32.j0])
    | succ kj3 =>
      have H := HA.out
      clear HA
      simp only [bits_Up_uint32.j0] at H
      by_cases c6 : x20_3 = true
      · subst c6
        have H1 : (some (t133, t134)) = some (r1, r2) := by rw [if_pos rfl] at H; exact H
        clear H
        have H := H1
        clear H1
        simp only [Option.some.injEq, Prod.mk.injEq] at H
        obtain ⟨rfl, rfl⟩ := H
        go_wp2
        go_ret2
        exact ⟨by first | rfl | (simp; done) | (simp [*]; done), by repeat (first | exact Drawn0.refl _ | apply Drawn0.step)⟩
      · replace c6 := Bool.eq_false_iff.mpr c6
        subst c6
        have H1 : (if ((t133 + a1) % 4294967296) = 0 then (some (0, false)) else (some ((t133 + a1) % 4294967296, true))) = some (r1, r2) := by rw [if_neg (show ¬ (false = true) by decide)] at H; exact H
        clear H
        have H := H1
        clear H1
        by_cases c7 : ((t133 + a1) % 4294967296) = 0
        · rw [if_pos c7] at H
          have c7b0 : (((t133 + a1) % 4294967296) == 0) = true := beq_iff_eq.mpr c7
          have c7b1 : (((t133 + a1) % 4294967296) != 0) = false := bne_eq_false_iff_eq.mpr c7
          clear c7
          simp only [Option.some.injEq, Prod.mk.injEq] at H
          obtain ⟨rfl, rfl⟩ := H
          go_wp2
          go_ret2
          exact ⟨by first | rfl | (simp; done) | (simp [*]; done), by repeat (first | exact Drawn0.refl _ | apply Drawn0.step)⟩
        · rw [if_neg c7] at H
          have c7b0 : (((t133 + a1) % 4294967296) == 0) = false := beq_eq_false_iff_ne.mpr c7
          have c7b1 : (((t133 + a1) % 4294967296) != 0) = true := bne_iff_ne.mpr c7
          simp only [Option.some.injEq, Prod.mk.injEq] at H
          obtain ⟨rfl, rfl⟩ := H
          go_wp2
          go_ret2
          exact ⟨by first | rfl | (simp; done) | (simp [*]; done), by repeat (first | exact Drawn0.refl _ | apply Drawn0.step)⟩

/-! ### croftlaw1_multiples_uint32: function 12 -/
def croftlaw1_multiples_uint32.j0 : Nat → Int → Int → Int → Int → Int → Bool → Option (Bool)
  | 0, _, _, _, _, _, _ => none
  | k + 1, x0, x1, x2, x7, x8, x42 => if x42 = true then (some false) else ((bits_Down_uint32.f ((x0) % 4294967296) ((x1) % 4294967296)).bind fun bt141 => ((croftref1_Down.f k x7 x8 x2).bind fun bt143 => (if (IntKind.u64.wrap (bt141.1)) = bt143.1 then (some (bt141.2 == bt143.2)) else (some false))))
def croftlaw1_multiples_uint32.f (k : Nat) (a0 : Int) (a1 : Int) (a2 : Int) : Option (Bool) := (croftref1_Cut.f a0 a2).bind fun t135 => ((croftref1_Cut.f a1 a2).bind fun t136 => ((bits_Up_uint32.f k ((a0) % 4294967296) ((a1) % 4294967296)).bind fun bt137 => ((croftref1_Up.f k t135 t136 a2).bind fun bt139 => (if (IntKind.u64.wrap (bt137.1)) = bt139.1 then (croftlaw1_multiples_uint32.j0 k a0 a1 a2 t135 t136 (bt137.2 != bt139.2)) else (croftlaw1_multiples_uint32.j0 k a0 a1 a2 t135 t136 true)))))
theorem croftlaw1_multiples_uint32.mono_l : ∀ k, (∀ y0 y1 y2 y3 y4 y5, LeO (croftlaw1_multiples_uint32.j0 k y0 y1 y2 y3 y4 y5) (croftlaw1_multiples_uint32.j0 (k + 1) y0 y1 y2 y3 y4 y5))
  | 0 => fun _ _ _ _ _ _ r h => by simp [croftlaw1_multiples_uint32.j0] at h
  | k + 1 => by
    have ih0 := croftlaw1_multiples_uint32.mono_l k
    · intro y0 y1 y2 y3 y4 y5
      unfold croftlaw1_multiples_uint32.j0
      repeat' first
      | (with_reducible exact ih0 _ _ _ _ _ _)
      | (with_reducible exact bits_Up_uint32.mono _ _ _)
      | (with_reducible exact croftref1_Down.mono _ _ _ _)
      | (with_reducible exact croftref1_Up.mono _ _ _ _)
      | (with_reducible exact LeO.refl _)
      | (with_reducible exact LeO.none _)
      | (with_reducible refine LeO.ite ?_ ?_)
      | (with_reducible refine LeO.bind ?_ (fun _ => ?_))
      | exact ih0 _ _ _ _ _ _
      | exact bits_Up_uint32.mono _ _ _
      | exact croftref1_Down.mono _ _ _ _
      | exact croftref1_Up.mono _ _ _ _
      | exact LeO.none _
      | refine LeO.ite ?_ ?_
      | refine LeO.bind ?_ (fun _ => ?_)
theorem croftlaw1_multiples_uint32.mono : ∀ a0 a1 a2 k, LeO (croftlaw1_multiples_uint32.f k a0 a1 a2) (croftlaw1_multiples_uint32.f (k + 1) a0 a1 a2) := by
  intro a0 a1 a2 k
  have ih0 := croftlaw1_multiples_uint32.mono_l k
  unfold croftlaw1_multiples_uint32.f
  repeat' first
      | (with_reducible exact ih0 _ _ _ _ _ _)
      | (with_reducible exact bits_Up_uint32.mono _ _ _)
      | (with_reducible exact croftref1_Down.mono _ _ _ _)
      | (with_reducible exact croftref1_Up.mono _ _ _ _)
      | (with_reducible exact LeO.refl _)
      | (with_reducible exact LeO.none _)
      | (with_reducible refine LeO.ite ?_ ?_)
      | (with_reducible refine LeO.bind ?_ (fun _ => ?_))
      | exact ih0 _ _ _ _ _ _
      | exact bits_Up_uint32.mono _ _ _
      | exact croftref1_Down.mono _ _ _ _
      | exact croftref1_Up.mono _ _ _ _
      | exact LeO.none _
      | refine LeO.ite ?_ ?_
      | refine LeO.bind ?_ (fun _ => ?_)
set_option maxHeartbeats 8000000 in
set_option maxRecDepth 100000 in
theorem croftlaw1_multiples_uint32.calls (k : Nat) (a0 : Int) (a1 : Int) (a2 : Int) (r : Bool) (w : World) (h : croftlaw1_multiples_uint32.f k a0 a1 a2 = some r) :
    Calls Try.prog 12 #[.int .u64 a0, .int .u64 a1, .int .i64 a2] w fun e w' => e = .returned (.bool r) ∧ Drawn0 w w' := by
  have H : ((croftref1_Cut.f a0 a2).bind fun t135 => ((croftref1_Cut.f a1 a2).bind fun t136 => ((bits_Up_uint32.f k ((a0) % 4294967296) ((a1) % 4294967296)).bind fun bt137 => ((croftref1_Up.f k t135 t136 a2).bind fun bt139 => (if (IntKind.u64.wrap (bt137.1)) = bt139.1 then (croftlaw1_multiples_uint32.j0 k a0 a1 a2 t135 t136 (bt137.2 != bt139.2)) else (croftlaw1_multiples_uint32.j0 k a0 a1 a2 t135 t136 true)))))) = some r := h
  clear h
  replace H := Option.bind_eq_some_iff.mp H
  obtain ⟨t135, A40, H⟩ := H
  replace H : ((croftref1_Cut.f a1 a2).bind fun t136 => ((bits_Up_uint32.f k ((a0) % 4294967296) ((a1) % 4294967296)).bind fun bt137 => ((croftref1_Up.f k t135 t136 a2).bind fun bt139 => (if (IntKind.u64.wrap (bt137.1)) = bt139.1 then (croftlaw1_multiples_uint32.j0 k a0 a1 a2 t135 t136 (bt137.2 != bt139.2)) else (croftlaw1_multiples_uint32.j0 k a0 a1 a2 t135 t136 true))))) = some r := H
  have A4 := Aside0.mk A40
  clear A40
  replace H := Option.bind_eq_some_iff.mp H
  obtain ⟨t136, A50, H⟩ := H
  replace H : ((bits_Up_uint32.f k ((a0) % 4294967296) ((a1) % 4294967296)).bind fun bt137 => ((croftref1_Up.f k t135 t136 a2).bind fun bt139 => (if (IntKind.u64.wrap (bt137.1)) = bt139.1 then (croftlaw1_multiples_uint32.j0 k a0 a1 a2 t135 t136 (bt137.2 != bt139.2)) else (croftlaw1_multiples_uint32.j0 k a0 a1 a2 t135 t136 true)))) = some r := H
  have A5 := Aside0.mk A50
  clear A50
  replace H := Option.bind_eq_some_iff.mp H
  obtain ⟨⟨t137, t138⟩, A60, H⟩ := H
  replace H : ((croftref1_Up.f k t135 t136 a2).bind fun bt139 => (if (IntKind.u64.wrap (t137)) = bt139.1 then (croftlaw1_multiples_uint32.j0 k a0 a1 a2 t135 t136 (t138 != bt139.2)) else (croftlaw1_multiples_uint32.j0 k a0 a1 a2 t135 t136 true))) = some r := H
  have A6 := Aside0.mk A60
  clear A60
  replace H := Option.bind_eq_some_iff.mp H
  obtain ⟨⟨t139, t140⟩, A70, H⟩ := H
  replace H : (if (IntKind.u64.wrap (t137)) = t139 then (croftlaw1_multiples_uint32.j0 k a0 a1 a2 t135 t136 (t138 != t140)) else (croftlaw1_multiples_uint32.j0 k a0 a1 a2 t135 t136 true)) = some r := H
  have A7 := Aside0.mk A70
  clear A70
  have HC8 := Aside0.mk H
  clear H
  go_enter Try.func12, Try.ntmps12
  go_upto_region 5 with (first | ((with_reducible refine gate_callee (f := 52) rfl ?_); refine goesL_ (some 15) rfl rfl Try.func52 (by kernel_rfl) rfl #[.int .u64 a0, .int .i64 a2] rfl (by (try simp only [List.map_toArray, List.map_cons, List.map_nil]); first | done | rfl | (simp only [List.length_drop, List.length_take]; rfl)) ?_; (with_reducible refine (croftref1_Cut.calls a0 a2 t135 _ A4.out).mono ?_); rintro e w' ⟨rfl, ⟨nd, rfl⟩⟩; refine ⟨_, rfl, ?_⟩) | ((with_reducible refine gate_callee (f := 52) rfl ?_); refine goesL_ (some 18) rfl rfl Try.func52 (by kernel_rfl) rfl #[.int .u64 a1, .int .i64 a2] rfl (by (try simp only [List.map_toArray, List.map_cons, List.map_nil]); first | done | rfl | (simp only [List.length_drop, List.length_take]; rfl)) ?_; (with_reducible refine (croftref1_Cut.calls a1 a2 t136 _ A5.out).mono ?_); rintro e w' ⟨rfl, ⟨nd, rfl⟩⟩; refine ⟨_, rfl, ?_⟩) | ((with_reducible refine gate_callee (f := 57) rfl ?_); refine goesL_ (some 24) rfl rfl Try.func57 (by kernel_rfl) rfl #[.int .u32 ((a0) % 4294967296), .int .u32 ((a1) % 4294967296)] rfl (by (try simp only [List.map_toArray, List.map_cons, List.map_nil]); first | done | rfl | (simp only [List.length_drop, List.length_take]; rfl)) ?_; (with_reducible refine (bits_Up_uint32.calls k ((a0) % 4294967296) ((a1) % 4294967296) t137 t138 _ A6.out).mono ?_); rintro e w' ⟨rfl, ⟨nd, rfl⟩⟩; refine ⟨_, rfl, ?_⟩) | ((with_reducible refine gate_callee (f := 53) rfl ?_); refine goesL_ (some 31) rfl rfl Try.func53 (by kernel_rfl) rfl #[.int .u64 t135, .int .u64 t136, .int .i64 a2] rfl (by (try simp only [List.map_toArray, List.map_cons, List.map_nil]); first | done | rfl | (simp only [List.length_drop, List.length_take]; rfl)) ?_; (with_reducible refine (croftref1_Up.calls k t135 t136 a2 t139 t140 _ A7.out).mono ?_); rintro e w' ⟨rfl, ⟨nd, rfl⟩⟩; refine ⟨_, rfl, ?_⟩))
  (try simp only [Act.put, List.setIfInBounds_toArray, List.set_cons_zero, List.set_cons_succ])
  go_cut [42] (fun v42 wc => ∃ (kq : Nat) (x42_7 : Bool), v42 = .bool x42_7 ∧ Aside0 (croftlaw1_multiples_uint32.j0 kq a0 a1 a2 t135 t136 x42_7 = some r) ∧ Aside0 (kq ≤ k) ∧ Drawn0 w wc)
  case first =>
    have H := HC8.out
    clear HC8
    by_cases c9 : (IntKind.u64.wrap (t137)) = t139
    · rw [if_pos c9] at H
      have c9b0 : ((IntKind.u64.wrap (t137)) == t139) = true := beq_iff_eq.mpr c9
      have c9b1 : ((IntKind.u64.wrap (t137)) != t139) = false := bne_eq_false_iff_eq.mpr c9
      clear c9
      (first | rw [c9b0] | (simp only [i64_w, i32_w]; rw [c9b0]) | skip)
      have H' := Aside0.mk H
      clear H
      go_wp2
      go_meet
      case rel => exact ⟨_, ((t138 != t140)), (by first | rfl | (simp; done) | (simp [*]; done)), H', ⟨by first | omega | exact Nat.le_refl _⟩, by repeat (first | exact Drawn0.refl _ | apply Drawn0.step)⟩
    · rw [if_neg c9] at H
      have c9b0 : ((IntKind.u64.wrap (t137)) == t139) = false := beq_eq_false_iff_ne.mpr c9
      have c9b1 : ((IntKind.u64.wrap (t137)) != t139) = true := bne_iff_ne.mpr c9
      (first | rw [c9b0] | (simp only [i64_w, i32_w]; rw [c9b0]) | skip)
      have H' := Aside0.mk H
      clear H
      go_wp2
      go_meet
      case rel => exact ⟨_, (true), (by first | rfl | (simp; done) | (simp [*]; done)), H', ⟨by first | omega | exact Nat.le_refl _⟩, by repeat (first | exact Drawn0.refl _ | apply Drawn0.step)⟩
  case rest =>
    clear HC8
    try clear c1
    try clear p2
    try clear c5
    try clear c9
    try clear c9b0
    try clear c9b1
    obtain ⟨kq, x42_7, rfl, HA, HJ7, ⟨mc7, rfl⟩⟩ := hcut
    cases kq with
    | zero => exact absurd HA.out (by simp [croftlaw1_multiples_uint32.j0])
    | succ kj7 =>
      have H := HA.out
      clear HA
      simp only [croftlaw1_multiples_uint32.j0] at H
      by_cases c10 : x42_7 = true
      · subst c10
        have H1 : (some false) = some r := by rw [if_pos rfl] at H; exact H
        clear H
        have H := H1
        clear H1
        obtain rfl := Option.some.inj H
        go_wp2
        go_ret
        exact ⟨by first | rfl | (simp; done) | (simp [*]; done), by repeat (first | exact Drawn0.refl _ | apply Drawn0.step)⟩
      · replace c10 := Bool.eq_false_iff.mpr c10
        subst c10
        have H1 : ((bits_Down_uint32.f ((a0) % 4294967296) ((a1) % 4294967296)).bind fun bt141 => ((croftref1_Down.f kj7 t135 t136 a2).bind fun bt143 => (if (IntKind.u64.wrap (bt141.1)) = bt143.1 then (some (bt141.2 == bt143.2)) else (some false)))) = some r := by rw [if_neg (show ¬ (false = true) by decide)] at H; exact H
        clear H
        have H := H1
        clear H1
        replace H := Option.bind_eq_some_iff.mp H
        obtain ⟨⟨t141, t142⟩, A110, H⟩ := H
        replace H : ((croftref1_Down.f kj7 t135 t136 a2).bind fun bt143 => (if (IntKind.u64.wrap (t141)) = bt143.1 then (some (t142 == bt143.2)) else (some false))) = some r := H
        have A11 := Aside0.mk A110
        clear A110
        replace H := Option.bind_eq_some_iff.mp H
        obtain ⟨⟨t143, t144⟩, A120, H⟩ := H
        replace H : (if (IntKind.u64.wrap (t141)) = t143 then (some (t142 == t144)) else (some false)) = some r := H
        have A12 := Aside0.mk A120
        clear A120
        by_cases c13 : (IntKind.u64.wrap (t141)) = t143
        · rw [if_pos c13] at H
          have c13b0 : ((IntKind.u64.wrap (t141)) == t143) = true := beq_iff_eq.mpr c13
          have c13b1 : ((IntKind.u64.wrap (t141)) != t143) = false := bne_eq_false_iff_eq.mpr c13
          clear c13
          obtain rfl := Option.some.inj H
          go_wp2_with (first | ((with_reducible refine gate_callee (f := 51) rfl ?_); refine goesL_ (some 48) rfl rfl Try.func51 (by kernel_rfl) rfl #[.int .u32 ((a0) % 4294967296), .int .u32 ((a1) % 4294967296)] rfl (by (try simp only [List.map_toArray, List.map_cons, List.map_nil]); first | done | rfl | (simp only [List.length_drop, List.length_take]; rfl)) ?_; (with_reducible refine (bits_Down_uint32.calls ((a0) % 4294967296) ((a1) % 4294967296) t141 t142 _ A11.out).mono ?_); rintro e w' ⟨rfl, ⟨nd, rfl⟩⟩; refine ⟨_, rfl, ?_⟩) | ((with_reducible refine gate_callee (f := 55) rfl ?_); refine goesL_ (some 55) rfl rfl Try.func55 (by kernel_rfl) rfl #[.int .u64 t135, .int .u64 t136, .int .i64 a2] rfl (by (try simp only [List.map_toArray, List.map_cons, List.map_nil]); first | done | rfl | (simp only [List.length_drop, List.length_take]; rfl)) ?_; (with_reducible refine (croftref1_Down.calls kj7 t135 t136 a2 t143 t144 _ A12.out).mono ?_); rintro e w' ⟨rfl, ⟨nd, rfl⟩⟩; refine ⟨_, rfl, ?_⟩))
          go_ret
          exact ⟨by first | rfl | (simp; done) | (simp [*]; done), by repeat (first | exact Drawn0.refl _ | apply Drawn0.step)⟩
        · rw [if_neg c13] at H
          have c13b0 : ((IntKind.u64.wrap (t141)) == t143) = false := beq_eq_false_iff_ne.mpr c13
          have c13b1 : ((IntKind.u64.wrap (t141)) != t143) = true := bne_iff_ne.mpr c13
          obtain rfl := Option.some.inj H
          go_wp2_with (first | ((with_reducible refine gate_callee (f := 51) rfl ?_); refine goesL_ (some 48) rfl rfl Try.func51 (by kernel_rfl) rfl #[.int .u32 ((a0) % 4294967296), .int .u32 ((a1) % 4294967296)] rfl (by (try simp only [List.map_toArray, List.map_cons, List.map_nil]); first | done | rfl | (simp only [List.length_drop, List.length_take]; rfl)) ?_; (with_reducible refine (bits_Down_uint32.calls ((a0) % 4294967296) ((a1) % 4294967296) t141 t142 _ A11.out).mono ?_); rintro e w' ⟨rfl, ⟨nd, rfl⟩⟩; refine ⟨_, rfl, ?_⟩) | ((with_reducible refine gate_callee (f := 55) rfl ?_); refine goesL_ (some 55) rfl rfl Try.func55 (by kernel_rfl) rfl #[.int .u64 t135, .int .u64 t136, .int .i64 a2] rfl (by (try simp only [List.map_toArray, List.map_cons, List.map_nil]); first | done | rfl | (simp only [List.length_drop, List.length_take]; rfl)) ?_; (with_reducible refine (croftref1_Down.calls kj7 t135 t136 a2 t143 t144 _ A12.out).mono ?_); rintro e w' ⟨rfl, ⟨nd, rfl⟩⟩; refine ⟨_, rfl, ?_⟩))
          go_ret
          exact ⟨by first | rfl | (simp; done) | (simp [*]; done), by repeat (first | exact Drawn0.refl _ | apply Drawn0.step)⟩

/-! ### bits_IsPower_uint64: function 33 -/
def bits_IsPower_uint64.f (a0 : Int) : Option (Bool) := if a0 = 0 then (some false) else (some ((Go.bits .and .u64 a0 (IntKind.u64.wrap (a0 - 1))) == 0))
set_option maxHeartbeats 8000000 in
set_option maxRecDepth 100000 in
theorem bits_IsPower_uint64.calls (a0 : Int) (r : Bool) (w : World) (h : bits_IsPower_uint64.f a0 = some r) :
    Calls Try.prog 33 #[.int .u64 a0] w fun e w' => e = .returned (.bool r) ∧ Drawn0 w w' := by
  have H : (if a0 = 0 then (some false) else (some ((Go.bits .and .u64 a0 (IntKind.u64.wrap (a0 - 1))) == 0))) = some r := h
  clear h
  by_cases c2 : a0 = 0
  · rw [if_pos c2] at H
    have c2b0 : (a0 == 0) = true := beq_iff_eq.mpr c2
    have c2b1 : (a0 != 0) = false := bne_eq_false_iff_eq.mpr c2
    clear c2
    obtain rfl := Option.some.inj H
    go_enter Try.func33, Try.ntmps33
    go_wp2
    go_ret
    exact ⟨by first | rfl | (simp; done) | (simp [*]; done), by repeat (first | exact Drawn0.refl _ | apply Drawn0.step)⟩
  · rw [if_neg c2] at H
    have c2b0 : (a0 == 0) = false := beq_eq_false_iff_ne.mpr c2
    have c2b1 : (a0 != 0) = true := bne_iff_ne.mpr c2
    obtain rfl := Option.some.inj H
    go_enter Try.func33, Try.ntmps33
    go_wp2
    go_ret
    exact ⟨by first | rfl | (simp; done) | (simp [*]; done), by repeat (first | exact Drawn0.refl _ | apply Drawn0.step)⟩

/-! ### bits_Down_uint64: function 31 -/
def bits_Down_uint64.f (a0 : Int) (a1 : Int) : Option (Int × Bool) := (bits_IsPower_uint64.f a1).bind fun t145 => (if t145 = true then (some (Go.bits .andNot .u64 a0 (IntKind.u64.wrap (a1 - 1)), true)) else (some (0, false)))
set_option maxHeartbeats 8000000 in
set_option maxRecDepth 100000 in
theorem bits_Down_uint64.calls (a0 : Int) (a1 : Int) (r1 : Int) (r2 : Bool) (w : World) (h : bits_Down_uint64.f a0 a1 = some (r1, r2)) :
    Calls Try.prog 31 #[.int .u64 a0, .int .u64 a1] w fun e w' => e = .returned (.tuple #[.int .u64 r1, .bool r2]) ∧ Drawn0 w w' := by
  have H : ((bits_IsPower_uint64.f a1).bind fun t145 => (if t145 = true then (some (Go.bits .andNot .u64 a0 (IntKind.u64.wrap (a1 - 1)), true)) else (some (0, false)))) = some (r1, r2) := h
  clear h
  replace H := Option.bind_eq_some_iff.mp H
  obtain ⟨t145, A30, H⟩ := H
  replace H : (if t145 = true then (some (Go.bits .andNot .u64 a0 (IntKind.u64.wrap (a1 - 1)), true)) else (some (0, false))) = some (r1, r2) := H
  have A3 := Aside0.mk A30
  clear A30
  by_cases c4 : t145 = true
  · subst c4
    have H1 : (some (Go.bits .andNot .u64 a0 (IntKind.u64.wrap (a1 - 1)), true)) = some (r1, r2) := by rw [if_pos rfl] at H; exact H
    clear H
    have H := H1
    clear H1
    simp only [Option.some.injEq, Prod.mk.injEq] at H
    obtain ⟨rfl, rfl⟩ := H
    go_enter Try.func31, Try.ntmps31
    go_wp2_with (first | ((with_reducible refine gate_callee (f := 33) rfl ?_); refine goesL_ (some 7) rfl rfl Try.func33 (by kernel_rfl) rfl #[.int .u64 a1] rfl (by (try simp only [List.map_toArray, List.map_cons, List.map_nil]); first | done | rfl | (simp only [List.length_drop, List.length_take]; rfl)) ?_; (with_reducible refine (bits_IsPower_uint64.calls a1 true _ A3.out).mono ?_); rintro e w' ⟨rfl, ⟨nd, rfl⟩⟩; refine ⟨_, rfl, ?_⟩))
    go_ret2
    exact ⟨by first | rfl | (simp; done) | (simp [*]; done), by repeat (first | exact Drawn0.refl _ | apply Drawn0.step)⟩
  · replace c4 := Bool.eq_false_iff.mpr c4
    subst c4
    have H1 : (some (0, false)) = some (r1, r2) := by rw [if_neg (show ¬ (false = true) by decide)] at H; exact H
    clear H
    have H := H1
    clear H1
    simp only [Option.some.injEq, Prod.mk.injEq] at H
    obtain ⟨rfl, rfl⟩ := H
    go_enter Try.func31, Try.ntmps31
    go_wp2_with (first | ((with_reducible refine gate_callee (f := 33) rfl ?_); refine goesL_ (some 7) rfl rfl Try.func33 (by kernel_rfl) rfl #[.int .u64 a1] rfl (by (try simp only [List.map_toArray, List.map_cons, List.map_nil]); first | done | rfl | (simp only [List.length_drop, List.length_take]; rfl)) ?_; (with_reducible refine (bits_IsPower_uint64.calls a1 false _ A3.out).mono ?_); rintro e w' ⟨rfl, ⟨nd, rfl⟩⟩; refine ⟨_, rfl, ?_⟩))
    go_ret2
    exact ⟨by first | rfl | (simp; done) | (simp [*]; done), by repeat (first | exact Drawn0.refl _ | apply Drawn0.step)⟩

/-! ### bits_Up_uint64: function 32 -/
def bits_Up_uint64.j0 : Nat → Int → Int → Bool → Bool → Option (Int × Bool)
  | 0, _, _, _, _ => none
  | k + 1, x1, x6, x7, x20 => if x20 = true then (some (x6, x7)) else (if (IntKind.u64.wrap (x6 + x1)) = 0 then (some (0, false)) else (some (IntKind.u64.wrap (x6 + x1), true)))
def bits_Up_uint64.f (k : Nat) (a0 : Int) (a1 : Int) : Option (Int × Bool) := (bits_Down_uint64.f a0 a1).bind fun bt146 => (if bt146.2 = true then (bits_Up_uint64.j0 k a1 bt146.1 bt146.2 (bt146.1 == a0)) else (bits_Up_uint64.j0 k a1 bt146.1 bt146.2 true))
theorem bits_Up_uint64.mono_l : ∀ k, (∀ y0 y1 y2 y3, LeO (bits_Up_uint64.j0 k y0 y1 y2 y3) (bits_Up_uint64.j0 (k + 1) y0 y1 y2 y3))
  | 0 => fun _ _ _ _ r h => by simp [bits_Up_uint64.j0] at h
  | k + 1 => by
    have ih0 := bits_Up_uint64.mono_l k
    · intro y0 y1 y2 y3
      unfold bits_Up_uint64.j0
      repeat' first
      | (with_reducible exact ih0 _ _ _ _)
      | (with_reducible exact LeO.refl _)
      | (with_reducible exact LeO.none _)
      | (with_reducible refine LeO.ite ?_ ?_)
      | (with_reducible refine LeO.bind ?_ (fun _ => ?_))
      | exact ih0 _ _ _ _
      | exact LeO.none _
      | refine LeO.ite ?_ ?_
      | refine LeO.bind ?_ (fun _ => ?_)
theorem bits_Up_uint64.mono : ∀ a0 a1 k, LeO (bits_Up_uint64.f k a0 a1) (bits_Up_uint64.f (k + 1) a0 a1) := by
  intro a0 a1 k
  have ih0 := bits_Up_uint64.mono_l k
  unfold bits_Up_uint64.f
  repeat' first
      | (with_reducible exact ih0 _ _ _ _)
      | (with_reducible exact LeO.refl _)
      | (with_reducible exact LeO.none _)
      | (with_reducible refine LeO.ite ?_ ?_)
      | (with_reducible refine LeO.bind ?_ (fun _ => ?_))
      | exact ih0 _ _ _ _
      | exact LeO.none _
      | refine LeO.ite ?_ ?_
      | refine LeO.bind ?_ (fun _ => ?_)
set_option maxHeartbeats 8000000 in
set_option maxRecDepth 100000 in
theorem bits_Up_uint64.calls (k : Nat) (a0 : Int) (a1 : Int) (r1 : Int) (r2 : Bool) (w : World) (h : bits_Up_uint64.f k a0 a1 = some (r1, r2)) :
    Calls Try.prog 32 #[.int .u64 a0, .int .u64 a1] w fun e w' => e = .returned (.tuple #[.int .u64 r1, .bool r2]) ∧ Drawn0 w w' := by
  have H : ((bits_Down_uint64.f a0 a1).bind fun bt146 => (if bt146.2 = true then (bits_Up_uint64.j0 k a1 bt146.1 bt146.2 (bt146.1 == a0)) else (bits_Up_uint64.j0 k a1 bt146.1 bt146.2 true))) = some (r1, r2) := h
  clear h
  replace H := Option.bind_eq_some_iff.mp H
  obtain ⟨⟨t146, t147⟩, A30, H⟩ := H
  replace H : (if t147 = true then (bits_Up_uint64.j0 k a1 t146 t147 (t146 == a0)) else (bits_Up_uint64.j0 k a1 t146 t147 true)) = some (r1, r2) := H
  have A3 := Aside0.mk A30
  clear A30
  have HC4 := Aside0.mk H
  clear H
  go_enter Try.func32, Try.ntmps32
  go_upto_region 2 with (first | ((with_reducible refine gate_callee (f := 31) rfl ?_); refine goesL_ (some 11) rfl rfl Try.func31 (by kernel_rfl) rfl #[.int .u64 a0, .int .u64 a1] rfl (by (try simp only [List.map_toArray, List.map_cons, List.map_nil]); first | done | rfl | (simp only [List.length_drop, List.length_take]; rfl)) ?_; (with_reducible refine (bits_Down_uint64.calls a0 a1 t146 t147 _ A3.out).mono ?_); rintro e w' ⟨rfl, ⟨nd, rfl⟩⟩; refine ⟨_, rfl, ?_⟩))
  (try simp only [Act.put, List.setIfInBounds_toArray, List.set_cons_zero, List.set_cons_succ])
  go_cut [20] (fun v20 wc => ∃ (kq : Nat) (x20_3 : Bool), v20 = .bool x20_3 ∧ Aside0 (bits_Up_uint64.j0 kq a1 t146 t147 x20_3 = some (r1, r2)) ∧ Aside0 (kq ≤ k) ∧ Drawn0 w wc)
  case first =>
    have H := HC4.out
    clear HC4
    by_cases c5 : t147 = true
    · subst c5
      have H1 : (bits_Up_uint64.j0 k a1 t146 true (t146 == a0)) = some (r1, r2) := by rw [if_pos rfl] at H; exact H
      clear H
      have H := H1
      clear H1
      have H' := Aside0.mk H
      clear H
      go_wp2
      go_meet
      case rel => exact ⟨_, ((t146 == a0)), (by first | rfl | (simp; done) | (simp [*]; done)), H', ⟨by first | omega | exact Nat.le_refl _⟩, by repeat (first | exact Drawn0.refl _ | apply Drawn0.step)⟩
    · replace c5 := Bool.eq_false_iff.mpr c5
      subst c5
      have H1 : (bits_Up_uint64.j0 k a1 t146 false true) = some (r1, r2) := by rw [if_neg (show ¬ (false = true) by decide)] at H; exact H
      clear H
      have H := H1
      clear H1
      have H' := Aside0.mk H
      clear H
      go_wp2
      go_meet
      case rel => exact ⟨_, (true), (by first | rfl | (simp; done) | (simp [*]; done)), H', ⟨by first | omega | exact Nat.le_refl _⟩, by repeat (first | exact Drawn0.refl _ | apply Drawn0.step)⟩
  case rest =>
    clear HC4
    try clear p2
    try clear c3
    try clear c5
    obtain ⟨kq, x20_3, rfl, HA, HJ3, ⟨mc3, rfl⟩⟩ := hcut
    cases kq with
    | zero => exact absurd HA.out (by simp [bits_Up_uint64.j0])
    | succ kj3 =>
      have H := HA.out
      clear HA
      simp only [bits_Up_uint64.j0] at H
      by_cases c6 : x20_3 = true
      · subst c6
        have H1 : (some (t146, t147)) = some (r1, r2) := by rw [if_pos rfl] at H; exact H
        clear H
        have H := H1
        clear H1
        simp only [Option.some.injEq, Prod.mk.injEq] at H
        obtain ⟨rfl, rfl⟩ := H
        go_wp2
        go_ret2
        exact ⟨by first | rfl | (simp; done) | (simp [*]; done), by repeat (first | exact Drawn0.refl _ | apply Drawn0.step)⟩
      · replace c6 := Bool.eq_false_iff.mpr c6
        subst c6
        have H1 : (if (IntKind.u64.wrap (t146 + a1)) = 0 then (some (0, false)) else (some (IntKind.u64.wrap (t146 + a1), true))) = some (r1, r2) := by rw [if_neg (show ¬ (false = true) by decide)] at H; exact H
        clear H
        have H := H1
        clear H1
        by_cases c7 : (IntKind.u64.wrap (t146 + a1)) = 0
        · rw [if_pos c7] at H
          have c7b0 : ((IntKind.u64.wrap (t146 + a1)) == 0) = true := beq_iff_eq.mpr c7
          have c7b1 : ((IntKind.u64.wrap (t146 + a1)) != 0) = false := bne_eq_false_iff_eq.mpr c7
          clear c7
          simp only [Option.some.injEq, Prod.mk.injEq] at H
          obtain ⟨rfl, rfl⟩ := H
          go_wp2
          go_ret2
          exact ⟨by first | rfl | (simp; done) | (simp [*]; done), by repeat (first | exact Drawn0.refl _ | apply Drawn0.step)⟩
        · rw [if_neg c7] at H
          have c7b0 : ((IntKind.u64.wrap (t146 + a1)) == 0) = false := beq_eq_false_iff_ne.mpr c7
          have c7b1 : ((IntKind.u64.wrap (t146 + a1)) != 0) = true := bne_iff_ne.mpr c7
          simp only [Option.some.injEq, Prod.mk.injEq] at H
          obtain ⟨rfl, rfl⟩ := H
          go_wp2
          go_ret2
          exact ⟨by first | rfl | (simp; done) | (simp [*]; done), by repeat (first | exact Drawn0.refl _ | apply Drawn0.step)⟩

/-! ### croftlaw1_multiples_uint64: function 13 -/
def croftlaw1_multiples_uint64.j0 : Nat → Int → Int → Int → Int → Int → Bool → Option (Bool)
  | 0, _, _, _, _, _, _ => none
  | k + 1, x0, x1, x2, x7, x8, x39 => if x39 = true then (some false) else ((bits_Down_uint64.f x0 x1).bind fun bt154 => ((croftref1_Down.f k x7 x8 x2).bind fun bt156 => (if bt154.1 = bt156.1 then (some (bt154.2 == bt156.2)) else (some false))))
def croftlaw1_multiples_uint64.f (k : Nat) (a0 : Int) (a1 : Int) (a2 : Int) : Option (Bool) := (croftref1_Cut.f a0 a2).bind fun t148 => ((croftref1_Cut.f a1 a2).bind fun t149 => ((bits_Up_uint64.f k a0 a1).bind fun bt150 => ((croftref1_Up.f k t148 t149 a2).bind fun bt152 => (if bt150.1 = bt152.1 then (croftlaw1_multiples_uint64.j0 k a0 a1 a2 t148 t149 (bt150.2 != bt152.2)) else (croftlaw1_multiples_uint64.j0 k a0 a1 a2 t148 t149 true)))))
theorem croftlaw1_multiples_uint64.mono_l : ∀ k, (∀ y0 y1 y2 y3 y4 y5, LeO (croftlaw1_multiples_uint64.j0 k y0 y1 y2 y3 y4 y5) (croftlaw1_multiples_uint64.j0 (k + 1) y0 y1 y2 y3 y4 y5))
  | 0 => fun _ _ _ _ _ _ r h => by simp [croftlaw1_multiples_uint64.j0] at h
  | k + 1 => by
    have ih0 := croftlaw1_multiples_uint64.mono_l k
    · intro y0 y1 y2 y3 y4 y5
      unfold croftlaw1_multiples_uint64.j0
      repeat' first
      | (with_reducible exact ih0 _ _ _ _ _ _)
      | (with_reducible exact bits_Up_uint64.mono _ _ _)
      | (with_reducible exact croftref1_Down.mono _ _ _ _)
      | (with_reducible exact croftref1_Up.mono _ _ _ _)
      | (with_reducible exact LeO.refl _)
      | (with_reducible exact LeO.none _)
      | (with_reducible refine LeO.ite ?_ ?_)
      | (with_reducible refine LeO.bind ?_ (fun _ => ?_))
      | exact ih0 _ _ _ _ _ _
      | exact bits_Up_uint64.mono _ _ _
      | exact croftref1_Down.mono _ _ _ _
      | exact croftref1_Up.mono _ _ _ _
      | exact LeO.none _
      | refine LeO.ite ?_ ?_
      | refine LeO.bind ?_ (fun _ => ?_)
theorem croftlaw1_multiples_uint64.mono : ∀ a0 a1 a2 k, LeO (croftlaw1_multiples_uint64.f k a0 a1 a2) (croftlaw1_multiples_uint64.f (k + 1) a0 a1 a2) := by
  intro a0 a1 a2 k
  have ih0 := croftlaw1_multiples_uint64.mono_l k
  unfold croftlaw1_multiples_uint64.f
  repeat' first
      | (with_reducible exact ih0 _ _ _ _ _ _)
      | (with_reducible exact bits_Up_uint64.mono _ _ _)
      | (with_reducible exact croftref1_Down.mono _ _ _ _)
      | (with_reducible exact croftref1_Up.mono _ _ _ _)
      | (with_reducible exact LeO.refl _)
      | (with_reducible exact LeO.none _)
      | (with_reducible refine LeO.ite ?_ ?_)
      | (with_reducible refine LeO.bind ?_ (fun _ => ?_))
      | exact ih0 _ _ _ _ _ _
      | exact bits_Up_uint64.mono _ _ _
      | exact croftref1_Down.mono _ _ _ _
      | exact croftref1_Up.mono _ _ _ _
      | exact LeO.none _
      | refine LeO.ite ?_ ?_
      | refine LeO.bind ?_ (fun _ => ?_)
set_option maxHeartbeats 8000000 in
set_option maxRecDepth 100000 in
theorem croftlaw1_multiples_uint64.calls (k : Nat) (a0 : Int) (a1 : Int) (a2 : Int) (r : Bool) (w : World) (h : croftlaw1_multiples_uint64.f k a0 a1 a2 = some r) :
    Calls Try.prog 13 #[.int .u64 a0, .int .u64 a1, .int .i64 a2] w fun e w' => e = .returned (.bool r) ∧ Drawn0 w w' := by
  have H : ((croftref1_Cut.f a0 a2).bind fun t148 => ((croftref1_Cut.f a1 a2).bind fun t149 => ((bits_Up_uint64.f k a0 a1).bind fun bt150 => ((croftref1_Up.f k t148 t149 a2).bind fun bt152 => (if bt150.1 = bt152.1 then (croftlaw1_multiples_uint64.j0 k a0 a1 a2 t148 t149 (bt150.2 != bt152.2)) else (croftlaw1_multiples_uint64.j0 k a0 a1 a2 t148 t149 true)))))) = some r := h
  clear h
  replace H := Option.bind_eq_some_iff.mp H
  obtain ⟨t148, A40, H⟩ := H
  replace H : ((croftref1_Cut.f a1 a2).bind fun t149 => ((bits_Up_uint64.f k a0 a1).bind fun bt150 => ((croftref1_Up.f k t148 t149 a2).bind fun bt152 => (if bt150.1 = bt152.1 then (croftlaw1_multiples_uint64.j0 k a0 a1 a2 t148 t149 (bt150.2 != bt152.2)) else (croftlaw1_multiples_uint64.j0 k a0 a1 a2 t148 t149 true))))) = some r := H
  have A4 := Aside0.mk A40
  clear A40
  replace H := Option.bind_eq_some_iff.mp H
  obtain ⟨t149, A50, H⟩ := H
  replace H : ((bits_Up_uint64.f k a0 a1).bind fun bt150 => ((croftref1_Up.f k t148 t149 a2).bind fun bt152 => (if bt150.1 = bt152.1 then (croftlaw1_multiples_uint64.j0 k a0 a1 a2 t148 t149 (bt150.2 != bt152.2)) else (croftlaw1_multiples_uint64.j0 k a0 a1 a2 t148 t149 true)))) = some r := H
  have A5 := Aside0.mk A50
  clear A50
  replace H := Option.bind_eq_some_iff.mp H
  obtain ⟨⟨t150, t151⟩, A60, H⟩ := H
  replace H : ((croftref1_Up.f k t148 t149 a2).bind fun bt152 => (if t150 = bt152.1 then (croftlaw1_multiples_uint64.j0 k a0 a1 a2 t148 t149 (t151 != bt152.2)) else (croftlaw1_multiples_uint64.j0 k a0 a1 a2 t148 t149 true))) = some r := H
  have A6 := Aside0.mk A60
  clear A60
  replace H := Option.bind_eq_some_iff.mp H
  obtain ⟨⟨t152, t153⟩, A70, H⟩ := H
  replace H : (if t150 = t152 then (croftlaw1_multiples_uint64.j0 k a0 a1 a2 t148 t149 (t151 != t153)) else (croftlaw1_multiples_uint64.j0 k a0 a1 a2 t148 t149 true)) = some r := H
  have A7 := Aside0.mk A70
  clear A70
  have HC8 := Aside0.mk H
  clear H
  go_enter Try.func13, Try.ntmps13
  go_upto_region 5 with (first | ((with_reducible refine gate_callee (f := 52) rfl ?_); refine goesL_ (some 15) rfl rfl Try.func52 (by kernel_rfl) rfl #[.int .u64 a0, .int .i64 a2] rfl (by (try simp only [List.map_toArray, List.map_cons, List.map_nil]); first | done | rfl | (simp only [List.length_drop, List.length_take]; rfl)) ?_; (with_reducible refine (croftref1_Cut.calls a0 a2 t148 _ A4.out).mono ?_); rintro e w' ⟨rfl, ⟨nd, rfl⟩⟩; refine ⟨_, rfl, ?_⟩) | ((with_reducible refine gate_callee (f := 52) rfl ?_); refine goesL_ (some 18) rfl rfl Try.func52 (by kernel_rfl) rfl #[.int .u64 a1, .int .i64 a2] rfl (by (try simp only [List.map_toArray, List.map_cons, List.map_nil]); first | done | rfl | (simp only [List.length_drop, List.length_take]; rfl)) ?_; (with_reducible refine (croftref1_Cut.calls a1 a2 t149 _ A5.out).mono ?_); rintro e w' ⟨rfl, ⟨nd, rfl⟩⟩; refine ⟨_, rfl, ?_⟩) | ((with_reducible refine gate_callee (f := 32) rfl ?_); refine goesL_ (some 22) rfl rfl Try.func32 (by kernel_rfl) rfl #[.int .u64 a0, .int .u64 a1] rfl (by (try simp only [List.map_toArray, List.map_cons, List.map_nil]); first | done | rfl | (simp only [List.length_drop, List.length_take]; rfl)) ?_; (with_reducible refine (bits_Up_uint64.calls k a0 a1 t150 t151 _ A6.out).mono ?_); rintro e w' ⟨rfl, ⟨nd, rfl⟩⟩; refine ⟨_, rfl, ?_⟩) | ((with_reducible refine gate_callee (f := 53) rfl ?_); refine goesL_ (some 29) rfl rfl Try.func53 (by kernel_rfl) rfl #[.int .u64 t148, .int .u64 t149, .int .i64 a2] rfl (by (try simp only [List.map_toArray, List.map_cons, List.map_nil]); first | done | rfl | (simp only [List.length_drop, List.length_take]; rfl)) ?_; (with_reducible refine (croftref1_Up.calls k t148 t149 a2 t152 t153 _ A7.out).mono ?_); rintro e w' ⟨rfl, ⟨nd, rfl⟩⟩; refine ⟨_, rfl, ?_⟩))
  (try simp only [Act.put, List.setIfInBounds_toArray, List.set_cons_zero, List.set_cons_succ])
  go_cut [39] (fun v39 wc => ∃ (kq : Nat) (x39_7 : Bool), v39 = .bool x39_7 ∧ Aside0 (croftlaw1_multiples_uint64.j0 kq a0 a1 a2 t148 t149 x39_7 = some r) ∧ Aside0 (kq ≤ k) ∧ Drawn0 w wc)
  case first =>
    have H := HC8.out
    clear HC8
    by_cases c9 : t150 = t152
    · rw [if_pos c9] at H
      have c9b0 : (t150 == t152) = true := beq_iff_eq.mpr c9
      have c9b1 : (t150 != t152) = false := bne_eq_false_iff_eq.mpr c9
      clear c9
      (first | rw [c9b0] | (simp only [i64_w, i32_w]; rw [c9b0]) | skip)
      have H' := Aside0.mk H
      clear H
      go_wp2
      go_meet
      case rel => exact ⟨_, ((t151 != t153)), (by first | rfl | (simp; done) | (simp [*]; done)), H', ⟨by first | omega | exact Nat.le_refl _⟩, by repeat (first | exact Drawn0.refl _ | apply Drawn0.step)⟩
    · rw [if_neg c9] at H
      have c9b0 : (t150 == t152) = false := beq_eq_false_iff_ne.mpr c9
      have c9b1 : (t150 != t152) = true := bne_iff_ne.mpr c9
      (first | rw [c9b0] | (simp only [i64_w, i32_w]; rw [c9b0]) | skip)
      have H' := Aside0.mk H
      clear H
      go_wp2
      go_meet
      case rel => exact ⟨_, (true), (by first | rfl | (simp; done) | (simp [*]; done)), H', ⟨by first | omega | exact Nat.le_refl _⟩, by repeat (first | exact Drawn0.refl _ | apply Drawn0.step)⟩
  case rest =>
    clear HC8
    try clear c1
    try clear p2
    try clear c3
    try clear c5
    try clear c9
    try clear c9b0
    try clear c9b1
    obtain ⟨kq, x39_7, rfl, HA, HJ7, ⟨mc7, rfl⟩⟩ := hcut
    cases kq with
    | zero => exact absurd HA.out (by simp [croftlaw1_multiples_uint64.j0])
    | succ kj7 =>
      have H := HA.out
      clear HA
      simp only [croftlaw1_multiples_uint64.j0] at H
      by_cases c10 : x39_7 = true
      · subst c10
        have H1 : (some false) = some r := by rw [if_pos rfl] at H; exact H
        clear H
        have H := H1
        clear H1
        obtain rfl := Option.some.inj H
        go_wp2
        go_ret
        exact ⟨by first | rfl | (simp; done) | (simp [*]; done), by repeat (first | exact Drawn0.refl _ | apply Drawn0.step)⟩
      · replace c10 := Bool.eq_false_iff.mpr c10
        subst c10
        have H1 : ((bits_Down_uint64.f a0 a1).bind fun bt154 => ((croftref1_Down.f kj7 t148 t149 a2).bind fun bt156 => (if bt154.1 = bt156.1 then (some (bt154.2 == bt156.2)) else (some false)))) = some r := by rw [if_neg (show ¬ (false = true) by decide)] at H; exact H
        clear H
        have H := H1
        clear H1
        replace H := Option.bind_eq_some_iff.mp H
        obtain ⟨⟨t154, t155⟩, A110, H⟩ := H
        replace H : ((croftref1_Down.f kj7 t148 t149 a2).bind fun bt156 => (if t154 = bt156.1 then (some (t155 == bt156.2)) else (some false))) = some r := H
        have A11 := Aside0.mk A110
        clear A110
        replace H := Option.bind_eq_some_iff.mp H
        obtain ⟨⟨t156, t157⟩, A120, H⟩ := H
        replace H : (if t154 = t156 then (some (t155 == t157)) else (some false)) = some r := H
        have A12 := Aside0.mk A120
        clear A120
        by_cases c13 : t154 = t156
        · rw [if_pos c13] at H
          have c13b0 : (t154 == t156) = true := beq_iff_eq.mpr c13
          have c13b1 : (t154 != t156) = false := bne_eq_false_iff_eq.mpr c13
          clear c13
          obtain rfl := Option.some.inj H
          go_wp2_with (first | ((with_reducible refine gate_callee (f := 31) rfl ?_); refine goesL_ (some 43) rfl rfl Try.func31 (by kernel_rfl) rfl #[.int .u64 a0, .int .u64 a1] rfl (by (try simp only [List.map_toArray, List.map_cons, List.map_nil]); first | done | rfl | (simp only [List.length_drop, List.length_take]; rfl)) ?_; (with_reducible refine (bits_Down_uint64.calls a0 a1 t154 t155 _ A11.out).mono ?_); rintro e w' ⟨rfl, ⟨nd, rfl⟩⟩; refine ⟨_, rfl, ?_⟩) | ((with_reducible refine gate_callee (f := 55) rfl ?_); refine goesL_ (some 50) rfl rfl Try.func55 (by kernel_rfl) rfl #[.int .u64 t148, .int .u64 t149, .int .i64 a2] rfl (by (try simp only [List.map_toArray, List.map_cons, List.map_nil]); first | done | rfl | (simp only [List.length_drop, List.length_take]; rfl)) ?_; (with_reducible refine (croftref1_Down.calls kj7 t148 t149 a2 t156 t157 _ A12.out).mono ?_); rintro e w' ⟨rfl, ⟨nd, rfl⟩⟩; refine ⟨_, rfl, ?_⟩))
          go_ret
          exact ⟨by first | rfl | (simp; done) | (simp [*]; done), by repeat (first | exact Drawn0.refl _ | apply Drawn0.step)⟩
        · rw [if_neg c13] at H
          have c13b0 : (t154 == t156) = false := beq_eq_false_iff_ne.mpr c13
          have c13b1 : (t154 != t156) = true := bne_iff_ne.mpr c13
          obtain rfl := Option.some.inj H
          go_wp2_with (first | ((with_reducible refine gate_callee (f := 31) rfl ?_); refine goesL_ (some 43) rfl rfl Try.func31 (by kernel_rfl) rfl #[.int .u64 a0, .int .u64 a1] rfl (by (try simp only [List.map_toArray, List.map_cons, List.map_nil]); first | done | rfl | (simp only [List.length_drop, List.length_take]; rfl)) ?_; (with_reducible refine (bits_Down_uint64.calls a0 a1 t154 t155 _ A11.out).mono ?_); rintro e w' ⟨rfl, ⟨nd, rfl⟩⟩; refine ⟨_, rfl, ?_⟩) | ((with_reducible refine gate_callee (f := 55) rfl ?_); refine goesL_ (some 50) rfl rfl Try.func55 (by kernel_rfl) rfl #[.int .u64 t148, .int .u64 t149, .int .i64 a2] rfl (by (try simp only [List.map_toArray, List.map_cons, List.map_nil]); first | done | rfl | (simp only [List.length_drop, List.length_take]; rfl)) ?_; (with_reducible refine (croftref1_Down.calls kj7 t148 t149 a2 t156 t157 _ A12.out).mono ?_); rintro e w' ⟨rfl, ⟨nd, rfl⟩⟩; refine ⟨_, rfl, ?_⟩))
          go_ret
          exact ⟨by first | rfl | (simp; done) | (simp [*]; done), by repeat (first | exact Drawn0.refl _ | apply Drawn0.step)⟩

/-! ### croftlaw1_small_73: function 73 -/
def croftlaw1_small_73.f (a0 : Int) : Option (Bool) := if a0 = 0 then (some false) else (some ((Go.bits .and .u8 a0 ((a0 - 1) % 256)) == 0))
set_option maxHeartbeats 8000000 in
set_option maxRecDepth 100000 in
theorem croftlaw1_small_73.calls (a0 : Int) (r : Bool) (w : World) (h : croftlaw1_small_73.f a0 = some r) :
    Calls Try.prog 73 #[.int .u8 a0] w fun e w' => e = .returned (.bool r) ∧ Drawn0 w w' := by
  have H : (if a0 = 0 then (some false) else (some ((Go.bits .and .u8 a0 ((a0 - 1) % 256)) == 0))) = some r := h
  clear h
  by_cases c2 : a0 = 0
  · rw [if_pos c2] at H
    have c2b0 : (a0 == 0) = true := beq_iff_eq.mpr c2
    have c2b1 : (a0 != 0) = false := bne_eq_false_iff_eq.mpr c2
    clear c2
    obtain rfl := Option.some.inj H
    go_enter Try.func73, Try.ntmps73
    go_wp2
    go_ret
    exact ⟨by first | rfl | (simp; done) | (simp [*]; done), by repeat (first | exact Drawn0.refl _ | apply Drawn0.step)⟩
  · rw [if_neg c2] at H
    have c2b0 : (a0 == 0) = false := beq_eq_false_iff_ne.mpr c2
    have c2b1 : (a0 != 0) = true := bne_iff_ne.mpr c2
    obtain rfl := Option.some.inj H
    go_enter Try.func73, Try.ntmps73
    go_wp2
    go_ret
    exact ⟨by first | rfl | (simp; done) | (simp [*]; done), by repeat (first | exact Drawn0.refl _ | apply Drawn0.step)⟩

/-! ### croftlaw1_small_59: function 59 -/
def croftlaw1_small_59.f (a0 : Int) (a1 : Int) : Option (Int × Bool) := (croftlaw1_small_73.f a1).bind fun t158 => (if t158 = true then (some (Go.bits .andNot .u8 a0 ((a1 - 1) % 256), true)) else (some (0, false)))
set_option maxHeartbeats 8000000 in
set_option maxRecDepth 100000 in
theorem croftlaw1_small_59.calls (a0 : Int) (a1 : Int) (r1 : Int) (r2 : Bool) (w : World) (h : croftlaw1_small_59.f a0 a1 = some (r1, r2)) :
    Calls Try.prog 59 #[.int .u8 a0, .int .u8 a1] w fun e w' => e = .returned (.tuple #[.int .u8 r1, .bool r2]) ∧ Drawn0 w w' := by
  have H : ((croftlaw1_small_73.f a1).bind fun t158 => (if t158 = true then (some (Go.bits .andNot .u8 a0 ((a1 - 1) % 256), true)) else (some (0, false)))) = some (r1, r2) := h
  clear h
  replace H := Option.bind_eq_some_iff.mp H
  obtain ⟨t158, A30, H⟩ := H
  replace H : (if t158 = true then (some (Go.bits .andNot .u8 a0 ((a1 - 1) % 256), true)) else (some (0, false))) = some (r1, r2) := H
  have A3 := Aside0.mk A30
  clear A30
  by_cases c4 : t158 = true
  · subst c4
    have H1 : (some (Go.bits .andNot .u8 a0 ((a1 - 1) % 256), true)) = some (r1, r2) := by rw [if_pos rfl] at H; exact H
    clear H
    have H := H1
    clear H1
    simp only [Option.some.injEq, Prod.mk.injEq] at H
    obtain ⟨rfl, rfl⟩ := H
    go_enter Try.func59, Try.ntmps59
    go_wp2_with (first | ((with_reducible refine gate_callee (f := 73) rfl ?_); refine goesL_ (some 7) rfl rfl Try.func73 (by kernel_rfl) rfl #[.int .u8 a1] rfl (by (try simp only [List.map_toArray, List.map_cons, List.map_nil]); first | done | rfl | (simp only [List.length_drop, List.length_take]; rfl)) ?_; (with_reducible refine (croftlaw1_small_73.calls a1 true _ A3.out).mono ?_); rintro e w' ⟨rfl, ⟨nd, rfl⟩⟩; refine ⟨_, rfl, ?_⟩))
    go_ret2
    exact ⟨by first | rfl | (simp; done) | (simp [*]; done), by repeat (first | exact Drawn0.refl _ | apply Drawn0.step)⟩
  · replace c4 := Bool.eq_false_iff.mpr c4
    subst c4
    have H1 : (some (0, false)) = some (r1, r2) := by rw [if_neg (show ¬ (false = true) by decide)] at H; exact H
    clear H
    have H := H1
    clear H1
    simp only [Option.some.injEq, Prod.mk.injEq] at H
    obtain ⟨rfl, rfl⟩ := H
    go_enter Try.func59, Try.ntmps59
    go_wp2_with (first | ((with_reducible refine gate_callee (f := 73) rfl ?_); refine goesL_ (some 7) rfl rfl Try.func73 (by kernel_rfl) rfl #[.int .u8 a1] rfl (by (try simp only [List.map_toArray, List.map_cons, List.map_nil]); first | done | rfl | (simp only [List.length_drop, List.length_take]; rfl)) ?_; (with_reducible refine (croftlaw1_small_73.calls a1 false _ A3.out).mono ?_); rintro e w' ⟨rfl, ⟨nd, rfl⟩⟩; refine ⟨_, rfl, ?_⟩))
    go_ret2
    exact ⟨by first | rfl | (simp; done) | (simp [*]; done), by repeat (first | exact Drawn0.refl _ | apply Drawn0.step)⟩

/-! ### croftlaw1_small_58: function 58 -/
def croftlaw1_small_58.j0 : Nat → Int → Int → Bool → Bool → Option (Int × Bool)
  | 0, _, _, _, _ => none
  | k + 1, x1, x6, x7, x20 => if x20 = true then (some (x6, x7)) else (if ((x6 + x1) % 256) = 0 then (some (0, false)) else (some ((x6 + x1) % 256, true)))
def croftlaw1_small_58.f (k : Nat) (a0 : Int) (a1 : Int) : Option (Int × Bool) := (croftlaw1_small_59.f a0 a1).bind fun bt159 => (if bt159.2 = true then (croftlaw1_small_58.j0 k a1 bt159.1 bt159.2 (bt159.1 == a0)) else (croftlaw1_small_58.j0 k a1 bt159.1 bt159.2 true))
theorem croftlaw1_small_58.mono_l : ∀ k, (∀ y0 y1 y2 y3, LeO (croftlaw1_small_58.j0 k y0 y1 y2 y3) (croftlaw1_small_58.j0 (k + 1) y0 y1 y2 y3))
  | 0 => fun _ _ _ _ r h => by simp [croftlaw1_small_58.j0] at h
  | k + 1 => by
    have ih0 := croftlaw1_small_58.mono_l k
    · intro y0 y1 y2 y3
      unfold croftlaw1_small_58.j0
      repeat' first
      | (with_reducible exact ih0 _ _ _ _)
      | (with_reducible exact LeO.refl _)
      | (with_reducible exact LeO.none _)
      | (with_reducible refine LeO.ite ?_ ?_)
      | (with_reducible refine LeO.bind ?_ (fun _ => ?_))
      | exact ih0 _ _ _ _
      | exact LeO.none _
      | refine LeO.ite ?_ ?_
      | refine LeO.bind ?_ (fun _ => ?_)
theorem croftlaw1_small_58.mono : ∀ a0 a1 k, LeO (croftlaw1_small_58.f k a0 a1) (croftlaw1_small_58.f (k + 1) a0 a1) := by
  intro a0 a1 k
  have ih0 := croftlaw1_small_58.mono_l k
  unfold croftlaw1_small_58.f
  repeat' first
      | (with_reducible exact ih0 _ _ _ _)
      | (with_reducible exact LeO.refl _)
      | (with_reducible exact LeO.none _)
      | (with_reducible refine LeO.ite ?_ ?_)
      | (with_reducible refine LeO.bind ?_ (fun _ => ?_))
      | exact ih0 _ _ _ _
      | exact LeO.none _
      | refine LeO.ite ?_ ?_
      | refine LeO.bind ?_ (fun _ => ?_)
set_option maxHeartbeats 8000000 in
set_option maxRecDepth 100000 in
theorem croftlaw1_small_58.calls (k : Nat) (a0 : Int) (a1 : Int) (r1 : Int) (r2 : Bool) (w : World) (h : croftlaw1_small_58.f k a0 a1 = some (r1, r2)) :
    Calls Try.prog 58 #[.int .u8 a0, .int .u8 a1] w fun e w' => e = .returned (.tuple #[.int .u8 r1, .bool r2]) ∧ Drawn0 w w' := by
  have H : ((croftlaw1_small_59.f a0 a1).bind fun bt159 => (if bt159.2 = true then (croftlaw1_small_58.j0 k a1 bt159.1 bt159.2 (bt159.1 == a0)) else (croftlaw1_small_58.j0 k a1 bt159.1 bt159.2 true))) = some (r1, r2) := h
  clear h
  replace H := Option.bind_eq_some_iff.mp H
  obtain ⟨⟨t159, t160⟩, A30, H⟩ := H
  replace H : (if t160 = true then (croftlaw1_small_58.j0 k a1 t159 t160 (t159 == a0)) else (croftlaw1_small_58.j0 k a1 t159 t160 true)) = some (r1, r2) := H
  have A3 := Aside0.mk A30
  clear A30
  have HC4 := Aside0.mk H
  clear H
  go_enter Try.func58, Try.ntmps58
  go_upto_region 2 with (first | ((with_reducible refine gate_callee (f := 59) rfl ?_); refine goesL_ (some 11) rfl rfl Try.func59 (by kernel_rfl) rfl #[.int .u8 a0, .int .u8 a1] rfl (by (try simp only [List.map_toArray, List.map_cons, List.map_nil]); first | done | rfl | (simp only [List.length_drop, List.length_take]; rfl)) ?_; (with_reducible refine (croftlaw1_small_59.calls a0 a1 t159 t160 _ A3.out).mono ?_); rintro e w' ⟨rfl, ⟨nd, rfl⟩⟩; refine ⟨_, rfl, ?_⟩))
  (try simp only [Act.put, List.setIfInBounds_toArray, List.set_cons_zero, List.set_cons_succ])
  go_cut [20] (fun v20 wc => ∃ (kq : Nat) (x20_3 : Bool), v20 = .bool x20_3 ∧ Aside0 (croftlaw1_small_58.j0 kq a1 t159 t160 x20_3 = some (r1, r2)) ∧ Aside0 (kq ≤ k) ∧ Drawn0 w wc)
  case first =>
    have H := HC4.out
    clear HC4
    by_cases c5 : t160 = true
    · subst c5
      have H1 : (croftlaw1_small_58.j0 k a1 t159 true (t159 == a0)) = some (r1, r2) := by rw [if_pos rfl] at H; exact H
      clear H
      have H := H1
      clear H1
      have H' := Aside0.mk H
      clear H
      go_wp2
      go_meet
      case rel => exact ⟨_, ((t159 == a0)), (by first | rfl | (simp; done) | (simp [*]; done)), H', ⟨by first | omega | exact Nat.le_refl _⟩, by repeat (first | exact Drawn0.refl _ | apply Drawn0.step)⟩
    · replace c5 := Bool.eq_false_iff.mpr c5
      subst c5
      have H1 : (croftlaw1_small_58.j0 k a1 t159 false true) = some (r1, r2) := by rw [if_neg (show ¬ (false = true) by decide)] at H; exact H
      clear H
      have H := H1
      clear H1
      have H' := Aside0.mk H
      clear H
      go_wp2
      go_meet
      case rel => exact ⟨_, (true), (by first | rfl | (simp; done) | (simp [*]; done)), H', ⟨by first | omega | exact Nat.le_refl _⟩, by repeat (first | exact Drawn0.refl _ | apply Drawn0.step)⟩
  case rest =>
    clear HC4
    try clear p2
    try clear c5
    obtain ⟨kq, x20_3, rfl, HA, HJ3, ⟨mc3, rfl⟩⟩ := hcut
    cases kq with
    | zero => exact absurd HA.out (by simp [croftlaw1_small_58.j0])
    | succ kj3 =>
      have H := HA.out
      clear HA
      simp only [croftlaw1_small_58.j0] at H
      by_cases c6 : x20_3 = true
      · subst c6
        have H1 : (some (t159, t160)) = some (r1, r2) := by rw [if_pos rfl] at H; exact H
        clear H
        have H := H1
        clear H1
        simp only [Option.some.injEq, Prod.mk.injEq] at H
        obtain ⟨rfl, rfl⟩ := H
        go_wp2
        go_ret2
        exact ⟨by first | rfl | (simp; done) | (simp [*]; done), by repeat (first | exact Drawn0.refl _ | apply Drawn0.step)⟩
      · replace c6 := Bool.eq_false_iff.mpr c6
        subst c6
        have H1 : (if ((t159 + a1) % 256) = 0 then (some (0, false)) else (some ((t159 + a1) % 256, true))) = some (r1, r2) := by rw [if_neg (show ¬ (false = true) by decide)] at H; exact H
        clear H
        have H := H1
        clear H1
        by_cases c7 : ((t159 + a1) % 256) = 0
        · rw [if_pos c7] at H
          have c7b0 : (((t159 + a1) % 256) == 0) = true := beq_iff_eq.mpr c7
          have c7b1 : (((t159 + a1) % 256) != 0) = false := bne_eq_false_iff_eq.mpr c7
          clear c7
          simp only [Option.some.injEq, Prod.mk.injEq] at H
          obtain ⟨rfl, rfl⟩ := H
          go_wp2
          go_ret2
          exact ⟨by first | rfl | (simp; done) | (simp [*]; done), by repeat (first | exact Drawn0.refl _ | apply Drawn0.step)⟩
        · rw [if_neg c7] at H
          have c7b0 : (((t159 + a1) % 256) == 0) = false := beq_eq_false_iff_ne.mpr c7
          have c7b1 : (((t159 + a1) % 256) != 0) = true := bne_iff_ne.mpr c7
          simp only [Option.some.injEq, Prod.mk.injEq] at H
          obtain ⟨rfl, rfl⟩ := H
          go_wp2
          go_ret2
          exact ⟨by first | rfl | (simp; done) | (simp [*]; done), by repeat (first | exact Drawn0.refl _ | apply Drawn0.step)⟩

/-! ### croftlaw1_small_14: function 14 -/
def croftlaw1_small_14.j0 : Nat → Int → Int → Int → Int → Int → Bool → Option (Bool)
  | 0, _, _, _, _, _, _ => none
  | k + 1, x0, x1, x2, x7, x8, x42 => if x42 = true then (some false) else ((croftlaw1_small_59.f ((x0) % 256) ((x1) % 256)).bind fun bt167 => ((croftref1_Down.f k x7 x8 x2).bind fun bt169 => (if (IntKind.u64.wrap (bt167.1)) = bt169.1 then (some (bt167.2 == bt169.2)) else (some false))))
def croftlaw1_small_14.f (k : Nat) (a0 : Int) (a1 : Int) (a2 : Int) : Option (Bool) := (croftref1_Cut.f a0 a2).bind fun t161 => ((croftref1_Cut.f a1 a2).bind fun t162 => ((croftlaw1_small_58.f k ((a0) % 256) ((a1) % 256)).bind fun bt163 => ((croftref1_Up.f k t161 t162 a2).bind fun bt165 => (if (IntKind.u64.wrap (bt163.1)) = bt165.1 then (croftlaw1_small_14.j0 k a0 a1 a2 t161 t162 (bt163.2 != bt165.2)) else (croftlaw1_small_14.j0 k a0 a1 a2 t161 t162 true)))))
theorem croftlaw1_small_14.mono_l : ∀ k, (∀ y0 y1 y2 y3 y4 y5, LeO (croftlaw1_small_14.j0 k y0 y1 y2 y3 y4 y5) (croftlaw1_small_14.j0 (k + 1) y0 y1 y2 y3 y4 y5))
  | 0 => fun _ _ _ _ _ _ r h => by simp [croftlaw1_small_14.j0] at h
  | k + 1 => by
    have ih0 := croftlaw1_small_14.mono_l k
    · intro y0 y1 y2 y3 y4 y5
      unfold croftlaw1_small_14.j0
      repeat' first
      | (with_reducible exact ih0 _ _ _ _ _ _)
      | (with_reducible exact croftlaw1_small_58.mono _ _ _)
      | (with_reducible exact croftref1_Down.mono _ _ _ _)
      | (with_reducible exact croftref1_Up.mono _ _ _ _)
      | (with_reducible exact LeO.refl _)
      | (with_reducible exact LeO.none _)
      | (with_reducible refine LeO.ite ?_ ?_)
      | (with_reducible refine LeO.bind ?_ (fun _ => ?_))
      | exact ih0 _ _ _ _ _ _
      | exact croftlaw1_small_58.mono _ _ _
      | exact croftref1_Down.mono _ _ _ _
      | exact croftref1_Up.mono _ _ _ _
      | exact LeO.none _
      | refine LeO.ite ?_ ?_
      | refine LeO.bind ?_ (fun _ => ?_)
theorem croftlaw1_small_14.mono : ∀ a0 a1 a2 k, LeO (croftlaw1_small_14.f k a0 a1 a2) (croftlaw1_small_14.f (k + 1) a0 a1 a2) := by
  intro a0 a1 a2 k
  have ih0 := croftlaw1_small_14.mono_l k
  unfold croftlaw1_small_14.f
  repeat' first
      | (with_reducible exact ih0 _ _ _ _ _ _)
      | (with_reducible exact croftlaw1_small_58.mono _ _ _)
      | (with_reducible exact croftref1_Down.mono _ _ _ _)
      | (with_reducible exact croftref1_Up.mono _ _ _ _)
      | (with_reducible exact LeO.refl _)
      | (with_reducible exact LeO.none _)
      | (with_reducible refine LeO.ite ?_ ?_)
      | (with_reducible refine LeO.bind ?_ (fun _ => ?_))
      | exact ih0 _ _ _ _ _ _
      | exact croftlaw1_small_58.mono _ _ _
      | exact croftref1_Down.mono _ _ _ _
      | exact croftref1_Up.mono _ _ _ _
      | exact LeO.none _
      | refine LeO.ite ?_ ?_
      | refine LeO.bind ?_ (fun _ => ?_)
set_option maxHeartbeats 8000000 in
set_option maxRecDepth 100000 in
theorem croftlaw1_small_14.calls (k : Nat) (a0 : Int) (a1 : Int) (a2 : Int) (r : Bool) (w : World) (h : croftlaw1_small_14.f k a0 a1 a2 = some r) :
    Calls Try.prog 14 #[.int .u64 a0, .int .u64 a1, .int .i64 a2] w fun e w' => e = .returned (.bool r) ∧ Drawn0 w w' := by
  have H : ((croftref1_Cut.f a0 a2).bind fun t161 => ((croftref1_Cut.f a1 a2).bind fun t162 => ((croftlaw1_small_58.f k ((a0) % 256) ((a1) % 256)).bind fun bt163 => ((croftref1_Up.f k t161 t162 a2).bind fun bt165 => (if (IntKind.u64.wrap (bt163.1)) = bt165.1 then (croftlaw1_small_14.j0 k a0 a1 a2 t161 t162 (bt163.2 != bt165.2)) else (croftlaw1_small_14.j0 k a0 a1 a2 t161 t162 true)))))) = some r := h
  clear h
  replace H := Option.bind_eq_some_iff.mp H
  obtain ⟨t161, A40, H⟩ := H
  replace H : ((croftref1_Cut.f a1 a2).bind fun t162 => ((croftlaw1_small_58.f k ((a0) % 256) ((a1) % 256)).bind fun bt163 => ((croftref1_Up.f k t161 t162 a2).bind fun bt165 => (if (IntKind.u64.wrap (bt163.1)) = bt165.1 then (croftlaw1_small_14.j0 k a0 a1 a2 t161 t162 (bt163.2 != bt165.2)) else (croftlaw1_small_14.j0 k a0 a1 a2 t161 t162 true))))) = some r := H
  have A4 := Aside0.mk A40
  clear A40
  replace H := Option.bind_eq_some_iff.mp H
  obtain ⟨t162, A50, H⟩ := H
  replace H : ((croftlaw1_small_58.f k ((a0) % 256) ((a1) % 256)).bind fun bt163 => ((croftref1_Up.f k t161 t162 a2).bind fun bt165 => (if (IntKind.u64.wrap (bt163.1)) = bt165.1 then (croftlaw1_small_14.j0 k a0 a1 a2 t161 t162 (bt163.2 != bt165.2)) else (croftlaw1_small_14.j0 k a0 a1 a2 t161 t162 true)))) = some r := H
  have A5 := Aside0.mk A50
  clear A50
  replace H := Option.bind_eq_some_iff.mp H
  obtain ⟨⟨t163, t164⟩, A60, H⟩ := H
  replace H : ((croftref1_Up.f k t161 t162 a2).bind fun bt165 => (if (IntKind.u64.wrap (t163)) = bt165.1 then (croftlaw1_small_14.j0 k a0 a1 a2 t161 t162 (t164 != bt165.2)) else (croftlaw1_small_14.j0 k a0 a1 a2 t161 t162 true))) = some r := H
  have A6 := Aside0.mk A60
  clear A60
  replace H := Option.bind_eq_some_iff.mp H
  obtain ⟨⟨t165, t166⟩, A70, H⟩ := H
  replace H : (if (IntKind.u64.wrap (t163)) = t165 then (croftlaw1_small_14.j0 k a0 a1 a2 t161 t162 (t164 != t166)) else (croftlaw1_small_14.j0 k a0 a1 a2 t161 t162 true)) = some r := H
  have A7 := Aside0.mk A70
  clear A70
  have HC8 := Aside0.mk H
  clear H
  go_enter Try.func14, Try.ntmps14
  go_upto_region 5 with (first | ((with_reducible refine gate_callee (f := 52) rfl ?_); refine goesL_ (some 15) rfl rfl Try.func52 (by kernel_rfl) rfl #[.int .u64 a0, .int .i64 a2] rfl (by (try simp only [List.map_toArray, List.map_cons, List.map_nil]); first | done | rfl | (simp only [List.length_drop, List.length_take]; rfl)) ?_; (with_reducible refine (croftref1_Cut.calls a0 a2 t161 _ A4.out).mono ?_); rintro e w' ⟨rfl, ⟨nd, rfl⟩⟩; refine ⟨_, rfl, ?_⟩) | ((with_reducible refine gate_callee (f := 52) rfl ?_); refine goesL_ (some 18) rfl rfl Try.func52 (by kernel_rfl) rfl #[.int .u64 a1, .int .i64 a2] rfl (by (try simp only [List.map_toArray, List.map_cons, List.map_nil]); first | done | rfl | (simp only [List.length_drop, List.length_take]; rfl)) ?_; (with_reducible refine (croftref1_Cut.calls a1 a2 t162 _ A5.out).mono ?_); rintro e w' ⟨rfl, ⟨nd, rfl⟩⟩; refine ⟨_, rfl, ?_⟩) | ((with_reducible refine gate_callee (f := 58) rfl ?_); refine goesL_ (some 24) rfl rfl Try.func58 (by kernel_rfl) rfl #[.int .u8 ((a0) % 256), .int .u8 ((a1) % 256)] rfl (by (try simp only [List.map_toArray, List.map_cons, List.map_nil]); first | done | rfl | (simp only [List.length_drop, List.length_take]; rfl)) ?_; (with_reducible refine (croftlaw1_small_58.calls k ((a0) % 256) ((a1) % 256) t163 t164 _ A6.out).mono ?_); rintro e w' ⟨rfl, ⟨nd, rfl⟩⟩; refine ⟨_, rfl, ?_⟩) | ((with_reducible refine gate_callee (f := 53) rfl ?_); refine goesL_ (some 31) rfl rfl Try.func53 (by kernel_rfl) rfl #[.int .u64 t161, .int .u64 t162, .int .i64 a2] rfl (by (try simp only [List.map_toArray, List.map_cons, List.map_nil]); first | done | rfl | (simp only [List.length_drop, List.length_take]; rfl)) ?_; (with_reducible refine (croftref1_Up.calls k t161 t162 a2 t165 t166 _ A7.out).mono ?_); rintro e w' ⟨rfl, ⟨nd, rfl⟩⟩; refine ⟨_, rfl, ?_⟩))
  (try simp only [Act.put, List.setIfInBounds_toArray, List.set_cons_zero, List.set_cons_succ])
  go_cut [42] (fun v42 wc => ∃ (kq : Nat) (x42_7 : Bool), v42 = .bool x42_7 ∧ Aside0 (croftlaw1_small_14.j0 kq a0 a1 a2 t161 t162 x42_7 = some r) ∧ Aside0 (kq ≤ k) ∧ Drawn0 w wc)
  case first =>
    have H := HC8.out
    clear HC8
    by_cases c9 : (IntKind.u64.wrap (t163)) = t165
    · rw [if_pos c9] at H
      have c9b0 : ((IntKind.u64.wrap (t163)) == t165) = true := beq_iff_eq.mpr c9
      have c9b1 : ((IntKind.u64.wrap (t163)) != t165) = false := bne_eq_false_iff_eq.mpr c9
      clear c9
      (first | rw [c9b0] | (simp only [i64_w, i32_w]; rw [c9b0]) | skip)
      have H' := Aside0.mk H
      clear H
      go_wp2
      go_meet
      case rel => exact ⟨_, ((t164 != t166)), (by first | rfl | (simp; done) | (simp [*]; done)), H', ⟨by first | omega | exact Nat.le_refl _⟩, by repeat (first | exact Drawn0.refl _ | apply Drawn0.step)⟩
    · rw [if_neg c9] at H
      have c9b0 : ((IntKind.u64.wrap (t163)) == t165) = false := beq_eq_false_iff_ne.mpr c9
      have c9b1 : ((IntKind.u64.wrap (t163)) != t165) = true := bne_iff_ne.mpr c9
      (first | rw [c9b0] | (simp only [i64_w, i32_w]; rw [c9b0]) | skip)
      have H' := Aside0.mk H
      clear H
      go_wp2
      go_meet
      case rel => exact ⟨_, (true), (by first | rfl | (simp; done) | (simp [*]; done)), H', ⟨by first | omega | exact Nat.le_refl _⟩, by repeat (first | exact Drawn0.refl _ | apply Drawn0.step)⟩
  case rest =>
    clear HC8
    try clear c1
    try clear p2
    try clear c5
    try clear c9
    try clear c9b0
    try clear c9b1
    obtain ⟨kq, x42_7, rfl, HA, HJ7, ⟨mc7, rfl⟩⟩ := hcut
    cases kq with
    | zero => exact absurd HA.out (by simp [croftlaw1_small_14.j0])
    | succ kj7 =>
      have H := HA.out
      clear HA
      simp only [croftlaw1_small_14.j0] at H
      by_cases c10 : x42_7 = true
      · subst c10
        have H1 : (some false) = some r := by rw [if_pos rfl] at H; exact H
        clear H
        have H := H1
        clear H1
        obtain rfl := Option.some.inj H
        go_wp2
        go_ret
        exact ⟨by first | rfl | (simp; done) | (simp [*]; done), by repeat (first | exact Drawn0.refl _ | apply Drawn0.step)⟩
      · replace c10 := Bool.eq_false_iff.mpr c10
        subst c10
        have H1 : ((croftlaw1_small_59.f ((a0) % 256) ((a1) % 256)).bind fun bt167 => ((croftref1_Down.f kj7 t161 t162 a2).bind fun bt169 => (if (IntKind.u64.wrap (bt167.1)) = bt169.1 then (some (bt167.2 == bt169.2)) else (some false)))) = some r := by rw [if_neg (show ¬ (false = true) by decide)] at H; exact H
        clear H
        have H := H1
        clear H1
        replace H := Option.bind_eq_some_iff.mp H
        obtain ⟨⟨t167, t168⟩, A110, H⟩ := H
        replace H : ((croftref1_Down.f kj7 t161 t162 a2).bind fun bt169 => (if (IntKind.u64.wrap (t167)) = bt169.1 then (some (t168 == bt169.2)) else (some false))) = some r := H
        have A11 := Aside0.mk A110
        clear A110
        replace H := Option.bind_eq_some_iff.mp H
        obtain ⟨⟨t169, t170⟩, A120, H⟩ := H
        replace H : (if (IntKind.u64.wrap (t167)) = t169 then (some (t168 == t170)) else (some false)) = some r := H
        have A12 := Aside0.mk A120
        clear A120
        by_cases c13 : (IntKind.u64.wrap (t167)) = t169
        · rw [if_pos c13] at H
          have c13b0 : ((IntKind.u64.wrap (t167)) == t169) = true := beq_iff_eq.mpr c13
          have c13b1 : ((IntKind.u64.wrap (t167)) != t169) = false := bne_eq_false_iff_eq.mpr c13
          clear c13
          obtain rfl := Option.some.inj H
          go_wp2_with (first | ((with_reducible refine gate_callee (f := 59) rfl ?_); refine goesL_ (some 48) rfl rfl Try.func59 (by kernel_rfl) rfl #[.int .u8 ((a0) % 256), .int .u8 ((a1) % 256)] rfl (by (try simp only [List.map_toArray, List.map_cons, List.map_nil]); first | done | rfl | (simp only [List.length_drop, List.length_take]; rfl)) ?_; (with_reducible refine (croftlaw1_small_59.calls ((a0) % 256) ((a1) % 256) t167 t168 _ A11.out).mono ?_); rintro e w' ⟨rfl, ⟨nd, rfl⟩⟩; refine ⟨_, rfl, ?_⟩) | ((with_reducible refine gate_callee (f := 55) rfl ?_); refine goesL_ (some 55) rfl rfl Try.func55 (by kernel_rfl) rfl #[.int .u64 t161, .int .u64 t162, .int .i64 a2] rfl (by (try simp only [List.map_toArray, List.map_cons, List.map_nil]); first | done | rfl | (simp only [List.length_drop, List.length_take]; rfl)) ?_; (with_reducible refine (croftref1_Down.calls kj7 t161 t162 a2 t169 t170 _ A12.out).mono ?_); rintro e w' ⟨rfl, ⟨nd, rfl⟩⟩; refine ⟨_, rfl, ?_⟩))
          go_ret
          exact ⟨by first | rfl | (simp; done) | (simp [*]; done), by repeat (first | exact Drawn0.refl _ | apply Drawn0.step)⟩
        · rw [if_neg c13] at H
          have c13b0 : ((IntKind.u64.wrap (t167)) == t169) = false := beq_eq_false_iff_ne.mpr c13
          have c13b1 : ((IntKind.u64.wrap (t167)) != t169) = true := bne_iff_ne.mpr c13
          obtain rfl := Option.some.inj H
          go_wp2_with (first | ((with_reducible refine gate_callee (f := 59) rfl ?_); refine goesL_ (some 48) rfl rfl Try.func59 (by kernel_rfl) rfl #[.int .u8 ((a0) % 256), .int .u8 ((a1) % 256)] rfl (by (try simp only [List.map_toArray, List.map_cons, List.map_nil]); first | done | rfl | (simp only [List.length_drop, List.length_take]; rfl)) ?_; (with_reducible refine (croftlaw1_small_59.calls ((a0) % 256) ((a1) % 256) t167 t168 _ A11.out).mono ?_); rintro e w' ⟨rfl, ⟨nd, rfl⟩⟩; refine ⟨_, rfl, ?_⟩) | ((with_reducible refine gate_callee (f := 55) rfl ?_); refine goesL_ (some 55) rfl rfl Try.func55 (by kernel_rfl) rfl #[.int .u64 t161, .int .u64 t162, .int .i64 a2] rfl (by (try simp only [List.map_toArray, List.map_cons, List.map_nil]); first | done | rfl | (simp only [List.length_drop, List.length_take]; rfl)) ?_; (with_reducible refine (croftref1_Down.calls kj7 t161 t162 a2 t169 t170 _ A12.out).mono ?_); rintro e w' ⟨rfl, ⟨nd, rfl⟩⟩; refine ⟨_, rfl, ?_⟩))
          go_ret
          exact ⟨by first | rfl | (simp; done) | (simp [*]; done), by repeat (first | exact Drawn0.refl _ | apply Drawn0.step)⟩

/-! ### croftlaw1_wide_77: function 77 -/
def croftlaw1_wide_77.f (a0 : Int) : Option (Bool) := if a0 = 0 then (some false) else (some ((Go.bits .and .u64 a0 (IntKind.u64.wrap (a0 - 1))) == 0))
set_option maxHeartbeats 8000000 in
set_option maxRecDepth 100000 in
theorem croftlaw1_wide_77.calls (a0 : Int) (r : Bool) (w : World) (h : croftlaw1_wide_77.f a0 = some r) :
    Calls Try.prog 77 #[.int .u64 a0] w fun e w' => e = .returned (.bool r) ∧ Drawn0 w w' := by
  have H : (if a0 = 0 then (some false) else (some ((Go.bits .and .u64 a0 (IntKind.u64.wrap (a0 - 1))) == 0))) = some r := h
  clear h
  by_cases c2 : a0 = 0
  · rw [if_pos c2] at H
    have c2b0 : (a0 == 0) = true := beq_iff_eq.mpr c2
    have c2b1 : (a0 != 0) = false := bne_eq_false_iff_eq.mpr c2
    clear c2
    obtain rfl := Option.some.inj H
    go_enter Try.func77, Try.ntmps77
    go_wp2
    go_ret
    exact ⟨by first | rfl | (simp; done) | (simp [*]; done), by repeat (first | exact Drawn0.refl _ | apply Drawn0.step)⟩
  · rw [if_neg c2] at H
    have c2b0 : (a0 == 0) = false := beq_eq_false_iff_ne.mpr c2
    have c2b1 : (a0 != 0) = true := bne_iff_ne.mpr c2
    obtain rfl := Option.some.inj H
    go_enter Try.func77, Try.ntmps77
    go_wp2
    go_ret
    exact ⟨by first | rfl | (simp; done) | (simp [*]; done), by repeat (first | exact Drawn0.refl _ | apply Drawn0.step)⟩

/-! ### croftlaw1_wide_61: function 61 -/
def croftlaw1_wide_61.f (a0 : Int) (a1 : Int) : Option (Int × Bool) := (croftlaw1_wide_77.f a1).bind fun t171 => (if t171 = true then (some (Go.bits .andNot .u64 a0 (IntKind.u64.wrap (a1 - 1)), true)) else (some (0, false)))
set_option maxHeartbeats 8000000 in
set_option maxRecDepth 100000 in
theorem croftlaw1_wide_61.calls (a0 : Int) (a1 : Int) (r1 : Int) (r2 : Bool) (w : World) (h : croftlaw1_wide_61.f a0 a1 = some (r1, r2)) :
    Calls Try.prog 61 #[.int .u64 a0, .int .u64 a1] w fun e w' => e = .returned (.tuple #[.int .u64 r1, .bool r2]) ∧ Drawn0 w w' := by
  have H : ((croftlaw1_wide_77.f a1).bind fun t171 => (if t171 = true then (some (Go.bits .andNot .u64 a0 (IntKind.u64.wrap (a1 - 1)), true)) else (some (0, false)))) = some (r1, r2) := h
  clear h
  replace H := Option.bind_eq_some_iff.mp H
  obtain ⟨t171, A30, H⟩ := H
  replace H : (if t171 = true then (some (Go.bits .andNot .u64 a0 (IntKind.u64.wrap (a1 - 1)), true)) else (some (0, false))) = some (r1, r2) := H
  have A3 := Aside0.mk A30
  clear A30
  by_cases c4 : t171 = true
  · subst c4
    have H1 : (some (Go.bits .andNot .u64 a0 (IntKind.u64.wrap (a1 - 1)), true)) = some (r1, r2) := by rw [if_pos rfl] at H; exact H
    clear H
    have H := H1
    clear H1
    simp only [Option.some.injEq, Prod.mk.injEq] at H
    obtain ⟨rfl, rfl⟩ := H
    go_enter Try.func61, Try.ntmps61
    go_wp2_with (first | ((with_reducible refine gate_callee (f := 77) rfl ?_); refine goesL_ (some 7) rfl rfl Try.func77 (by kernel_rfl) rfl #[.int .u64 a1] rfl (by (try simp only [List.map_toArray, List.map_cons, List.map_nil]); first | done | rfl | (simp only [List.length_drop, List.length_take]; rfl)) ?_; (with_reducible refine (croftlaw1_wide_77.calls a1 true _ A3.out).mono ?_); rintro e w' ⟨rfl, ⟨nd, rfl⟩⟩; refine ⟨_, rfl, ?_⟩))
    go_ret2
    exact ⟨by first | rfl | (simp; done) | (simp [*]; done), by repeat (first | exact Drawn0.refl _ | apply Drawn0.step)⟩
  · replace c4 := Bool.eq_false_iff.mpr c4
    subst c4
    have H1 : (some (0, false)) = some (r1, r2) := by rw [if_neg (show ¬ (false = true) by decide)] at H; exact H
    clear H
    have H := H1
    clear H1
    simp only [Option.some.injEq, Prod.mk.injEq] at H
    obtain ⟨rfl, rfl⟩ := H
    go_enter Try.func61, Try.ntmps61
    go_wp2_with (first | ((with_reducible refine gate_callee (f := 77) rfl ?_); refine goesL_ (some 7) rfl rfl Try.func77 (by kernel_rfl) rfl #[.int .u64 a1] rfl (by (try simp only [List.map_toArray, List.map_cons, List.map_nil]); first | done | rfl | (simp only [List.length_drop, List.length_take]; rfl)) ?_; (with_reducible refine (croftlaw1_wide_77.calls a1 false _ A3.out).mono ?_); rintro e w' ⟨rfl, ⟨nd, rfl⟩⟩; refine ⟨_, rfl, ?_⟩))
    go_ret2
    exact ⟨by first | rfl | (simp; done) | (simp [*]; done), by repeat (first | exact Drawn0.refl _ | apply Drawn0.step)⟩


end Go.Proofs.Ytccpoflhmooanaa.R
