import Derived.Test.YtccpoflhmooanaaR2
namespace Go.Proofs.Ytccpoflhmooanaa.R
open Go.RowKit Go.Proofs.YtccpoflhmooanaaW.PrintWords Go.Proofs.YtccpoflhmooanaaW.PrintLast Go.Proofs.YtccpoflhmooanaaW.PrintMore
attribute [local go_sem] max2_int min2_int max_two min_two max_three min_three max_four min_four
set_option linter.unusedVariables false
set_option linter.unusedSimpArgs false

/-! ### bits_Ceil_uint64: function 34 -/
def bits_Ceil_uint64.f (k : Nat) (a0 : Int) : Option (Int × Bool) := if a0 ≤ 1 then (some (1, true)) else ((bits_Log_uint64.f k (IntKind.u64.wrap (a0 - 1))).bind fun t148 => (if 0 ≤ (wrap64 (t148 + 1)) then (some (shl .u64 1 (wrap64 (t148 + 1)), ((shl .u64 1 (wrap64 (t148 + 1))) != 0))) else (none)))
theorem bits_Ceil_uint64.mono : ∀ a0 k, LeO (bits_Ceil_uint64.f k a0) (bits_Ceil_uint64.f (k + 1) a0) := by
  intro a0 k
  unfold bits_Ceil_uint64.f
  repeat' first
      | (with_reducible exact bits_Log_uint64.mono _ _)
      | (with_reducible exact LeO.refl _)
      | (with_reducible exact LeO.none _)
      | (with_reducible refine LeO.ite ?_ ?_)
      | (with_reducible refine LeO.bind ?_ (fun _ => ?_))
      | exact bits_Log_uint64.mono _ _
      | exact LeO.none _
      | refine LeO.ite ?_ ?_
      | refine LeO.bind ?_ (fun _ => ?_)
set_option maxHeartbeats 8000000 in
set_option maxRecDepth 100000 in
theorem bits_Ceil_uint64.calls (k : Nat) (a0 : Int) (r1 : Int) (r2 : Bool) (w : World) (h : bits_Ceil_uint64.f k a0 = some (r1, r2)) :
    Calls Try.prog 34 #[.int .u64 a0] w fun e w' => e = .returned (.tuple #[.int .u64 r1, .bool r2]) ∧ Drawn0 w w' := by
  have H : (if a0 ≤ 1 then (some (1, true)) else ((bits_Log_uint64.f k (IntKind.u64.wrap (a0 - 1))).bind fun t148 => (if 0 ≤ (wrap64 (t148 + 1)) then (some (shl .u64 1 (wrap64 (t148 + 1)), ((shl .u64 1 (wrap64 (t148 + 1))) != 0))) else (none)))) = some (r1, r2) := h
  clear h
  by_cases c2 : a0 ≤ 1
  · rw [if_pos c2] at H
    have c2b0 : decide (a0 ≤ 1) = true := decide_eq_true c2
    clear c2
    simp only [Option.some.injEq, Prod.mk.injEq] at H
    obtain ⟨rfl, rfl⟩ := H
    go_enter Try.func34, Try.ntmps34
    go_wp2
    go_ret2
    exact ⟨by first | rfl | (simp; done) | (simp [*]; done), by repeat (first | exact Drawn0.refl _ | apply Drawn0.step)⟩
  · rw [if_neg c2] at H
    have c2b0 : decide (a0 ≤ 1) = false := decide_eq_false c2
    clear c2
    replace H := Option.bind_eq_some_iff.mp H
    obtain ⟨t148, A30, H⟩ := H
    replace H : (if 0 ≤ (wrap64 (t148 + 1)) then (some (shl .u64 1 (wrap64 (t148 + 1)), ((shl .u64 1 (wrap64 (t148 + 1))) != 0))) else (none)) = some (r1, r2) := H
    have A3 := Aside0.mk A30
    clear A30
    obtain ⟨ji4, hji4⟩ : ∃ j_ : Int, (wrap64 (t148 + 1)) = j_ := ⟨_, rfl⟩
    replace H : (if 0 ≤ (ji4) then (some (shl .u64 1 (ji4), ((shl .u64 1 (ji4)) != 0))) else (none)) = some (r1, r2) := by first | (rw [hji4] at H; exact H) | (simp only [hji4] at H ⊢; exact H)
    (try rw [hji4] at A3)
    have hji4w : (IntKind.i64.wrap (t148 + 1)) = ji4 := (i64_w _).trans hji4
    by_cases c5 : 0 ≤ (ji4)
    · rw [if_pos c5] at H
      have c5b0 := eq_true c5
      have c5b1 : decide (0 ≤ (ji4)) = true := decide_eq_true c5
      clear c5
      obtain ⟨ji6, hji6⟩ : ∃ j_ : Int, (shl .u64 1 (ji4)) = j_ := ⟨_, rfl⟩
      replace H : (some (ji6, ((ji6) != 0))) = some (r1, r2) := by first | (rw [hji6] at H; exact H) | (simp only [hji6] at H ⊢; exact H)
      (try rw [hji6] at A3)
      have hji6_ : (IntKind.u64.wrap (1 * 2 ^ min (ji4).toNat 64)) = ji6 := hji6
      have hji6z : (ji4) ≤ 64 → (IntKind.u64.wrap (1 * 2 ^ (ji4).toNat)) = ji6 := shl_small hji6
      have hji6u : (IntKind.u64.wrap (2 ^ min (ji4).toNat 64)) = ji6 := by have h_ := hji6_; rw [Int.one_mul] at h_; exact h_
      have hji6v : (ji4) ≤ 64 → (IntKind.u64.wrap (2 ^ (ji4).toNat)) = ji6 := fun hle_ => by have h_ := hji6z hle_; rw [Int.one_mul] at h_; exact h_
      simp only [Option.some.injEq, Prod.mk.injEq] at H
      obtain ⟨rfl, rfl⟩ := H
      go_enter Try.func34, Try.ntmps34
      go_wp2_with (first | ((with_reducible refine gate_callee (f := 36) rfl ?_); refine goesL_ (some 10) rfl rfl Try.func36 (by kernel_rfl) rfl #[.int .u64 (IntKind.u64.wrap (a0 - 1))] rfl (by (try simp only [List.map_toArray, List.map_cons, List.map_nil]); first | done | rfl | (simp only [List.length_drop, List.length_take]; rfl)) ?_; (with_reducible refine (bits_Log_uint64.calls k (IntKind.u64.wrap (a0 - 1)) t148 _ A3.out).mono ?_); rintro e w' ⟨rfl, ⟨nd, rfl⟩⟩; refine ⟨_, rfl, ?_⟩))
      go_ret2
      exact ⟨by first | rfl | (simp; done) | (simp only [← hji4, ← hji6] <;> (first | rfl | simp)) | (simp [*]; done), by repeat (first | exact Drawn0.refl _ | apply Drawn0.step)⟩
    · rw [if_neg c5] at H
      exact absurd H (by simp)

/-! ### bits_Count_uint64: function 35 -/
def bits_Count_uint64.f (a0 : Int) : Option (Int) := (bits_OnesCount64.f a0).bind fun t149 => (some t149)
set_option maxHeartbeats 8000000 in
set_option maxRecDepth 100000 in
theorem bits_Count_uint64.calls (a0 : Int) (r : Int) (w : World) (h : bits_Count_uint64.f a0 = some r) :
    Calls Try.prog 35 #[.int .u64 a0] w fun e w' => e = .returned (.int .i64 r) ∧ Drawn0 w w' := by
  have H : ((bits_OnesCount64.f a0).bind fun t149 => (some t149)) = some r := h
  clear h
  replace H := Option.bind_eq_some_iff.mp H
  obtain ⟨t149, A20, H⟩ := H
  replace H : (some t149) = some r := H
  have A2 := Aside0.mk A20
  clear A20
  obtain rfl := Option.some.inj H
  go_enter Try.func35, Try.ntmps35
  go_wp2_with (first | ((with_reducible refine gate_callee (f := 81) rfl ?_); refine goesL_ (some 4) rfl rfl Try.func81 (by kernel_rfl) rfl #[.int .u64 a0] rfl (by (try simp only [List.map_toArray, List.map_cons, List.map_nil]); first | done | rfl | (simp only [List.length_drop, List.length_take]; rfl)) ?_; (with_reducible refine (bits_OnesCount64.calls a0 t149 _ A2.out).mono ?_); rintro e w' ⟨rfl, ⟨nd, rfl⟩⟩; refine ⟨_, rfl, ?_⟩))
  go_ret
  exact ⟨by first | rfl | (simp; done) | (simp [*]; done), by repeat (first | exact Drawn0.refl _ | apply Drawn0.step)⟩

/-! ### croftlaw1_powers_uint64: function 28 -/
def croftlaw1_powers_uint64.j0 : Nat → Int → Int → Int → Bool → Option (Bool)
  | 0, _, _, _, _ => none
  | k + 1, x1, x5, x6, x35 => if x35 = true then (some false) else ((bits_Ceil_uint64.f k x5).bind fun bt157 => ((croftref1_Ceil.f k x6 x1).bind fun bt159 => (if bt157.1 = bt159.1 then (some (bt157.2 == bt159.2)) else (some false))))
def croftlaw1_powers_uint64.f (k : Nat) (a0 : Int) (a1 : Int) : Option (Bool) := (croftref1_Cut.f a0 a1).bind fun t150 => ((bits_IsPower_uint64.f a0).bind fun t151 => ((croftref1_IsPower.f k t150 a1).bind fun t152 => (if (t151 != t152) = true then (croftlaw1_powers_uint64.j0 k a1 a0 t150 true) else ((bits_Log_uint64.f k a0).bind fun t153 => ((croftref1_Log.f k t150 a1).bind fun t154 => (if t153 = t154 then ((bits_Count_uint64.f a0).bind fun t155 => ((croftref1_Count.f k t150).bind fun t156 => (croftlaw1_powers_uint64.j0 k a1 a0 t150 (t155 != t156)))) else (croftlaw1_powers_uint64.j0 k a1 a0 t150 true)))))))
theorem croftlaw1_powers_uint64.mono_l : ∀ k, (∀ y0 y1 y2 y3, LeO (croftlaw1_powers_uint64.j0 k y0 y1 y2 y3) (croftlaw1_powers_uint64.j0 (k + 1) y0 y1 y2 y3))
  | 0 => fun _ _ _ _ r h => by simp [croftlaw1_powers_uint64.j0] at h
  | k + 1 => by
    have ih0 := croftlaw1_powers_uint64.mono_l k
    · intro y0 y1 y2 y3
      unfold croftlaw1_powers_uint64.j0
      repeat' first
      | (with_reducible exact ih0 _ _ _ _)
      | (with_reducible exact bits_Ceil_uint64.mono _ _)
      | (with_reducible exact bits_Log_uint64.mono _ _)
      | (with_reducible exact croftref1_Ceil.mono _ _ _)
      | (with_reducible exact croftref1_Count.mono _ _)
      | (with_reducible exact croftref1_IsPower.mono _ _ _)
      | (with_reducible exact croftref1_Log.mono _ _ _)
      | (with_reducible exact LeO.refl _)
      | (with_reducible exact LeO.none _)
      | (with_reducible refine LeO.ite ?_ ?_)
      | (with_reducible refine LeO.bind ?_ (fun _ => ?_))
      | exact ih0 _ _ _ _
      | exact bits_Ceil_uint64.mono _ _
      | exact bits_Log_uint64.mono _ _
      | exact croftref1_Ceil.mono _ _ _
      | exact croftref1_Count.mono _ _
      | exact croftref1_IsPower.mono _ _ _
      | exact croftref1_Log.mono _ _ _
      | exact LeO.none _
      | refine LeO.ite ?_ ?_
      | refine LeO.bind ?_ (fun _ => ?_)
theorem croftlaw1_powers_uint64.mono : ∀ a0 a1 k, LeO (croftlaw1_powers_uint64.f k a0 a1) (croftlaw1_powers_uint64.f (k + 1) a0 a1) := by
  intro a0 a1 k
  have ih0 := croftlaw1_powers_uint64.mono_l k
  unfold croftlaw1_powers_uint64.f
  repeat' first
      | (with_reducible exact ih0 _ _ _ _)
      | (with_reducible exact bits_Ceil_uint64.mono _ _)
      | (with_reducible exact bits_Log_uint64.mono _ _)
      | (with_reducible exact croftref1_Ceil.mono _ _ _)
      | (with_reducible exact croftref1_Count.mono _ _)
      | (with_reducible exact croftref1_IsPower.mono _ _ _)
      | (with_reducible exact croftref1_Log.mono _ _ _)
      | (with_reducible exact LeO.refl _)
      | (with_reducible exact LeO.none _)
      | (with_reducible refine LeO.ite ?_ ?_)
      | (with_reducible refine LeO.bind ?_ (fun _ => ?_))
      | exact ih0 _ _ _ _
      | exact bits_Ceil_uint64.mono _ _
      | exact bits_Log_uint64.mono _ _
      | exact croftref1_Ceil.mono _ _ _
      | exact croftref1_Count.mono _ _
      | exact croftref1_IsPower.mono _ _ _
      | exact croftref1_Log.mono _ _ _
      | exact LeO.none _
      | refine LeO.ite ?_ ?_
      | refine LeO.bind ?_ (fun _ => ?_)
set_option maxHeartbeats 8000000 in
set_option maxRecDepth 100000 in
theorem croftlaw1_powers_uint64.calls (k : Nat) (a0 : Int) (a1 : Int) (r : Bool) (w : World) (h : croftlaw1_powers_uint64.f k a0 a1 = some r) :
    Calls Try.prog 28 #[.int .u64 a0, .int .i64 a1] w fun e w' => e = .returned (.bool r) ∧ Drawn0 w w' := by
  have H : ((croftref1_Cut.f a0 a1).bind fun t150 => ((bits_IsPower_uint64.f a0).bind fun t151 => ((croftref1_IsPower.f k t150 a1).bind fun t152 => (if (t151 != t152) = true then (croftlaw1_powers_uint64.j0 k a1 a0 t150 true) else ((bits_Log_uint64.f k a0).bind fun t153 => ((croftref1_Log.f k t150 a1).bind fun t154 => (if t153 = t154 then ((bits_Count_uint64.f a0).bind fun t155 => ((croftref1_Count.f k t150).bind fun t156 => (croftlaw1_powers_uint64.j0 k a1 a0 t150 (t155 != t156)))) else (croftlaw1_powers_uint64.j0 k a1 a0 t150 true)))))))) = some r := h
  clear h
  replace H := Option.bind_eq_some_iff.mp H
  obtain ⟨t150, A30, H⟩ := H
  replace H : ((bits_IsPower_uint64.f a0).bind fun t151 => ((croftref1_IsPower.f k t150 a1).bind fun t152 => (if (t151 != t152) = true then (croftlaw1_powers_uint64.j0 k a1 a0 t150 true) else ((bits_Log_uint64.f k a0).bind fun t153 => ((croftref1_Log.f k t150 a1).bind fun t154 => (if t153 = t154 then ((bits_Count_uint64.f a0).bind fun t155 => ((croftref1_Count.f k t150).bind fun t156 => (croftlaw1_powers_uint64.j0 k a1 a0 t150 (t155 != t156)))) else (croftlaw1_powers_uint64.j0 k a1 a0 t150 true))))))) = some r := H
  have A3 := Aside0.mk A30
  clear A30
  have HC4 := Aside0.mk H
  clear H
  go_enter Try.func28, Try.ntmps28
  go_upto_region 3 with (first | ((with_reducible refine gate_callee (f := 52) rfl ?_); refine goesL_ (some 14) rfl rfl Try.func52 (by kernel_rfl) rfl #[.int .u64 a0, .int .i64 a1] rfl (by (try simp only [List.map_toArray, List.map_cons, List.map_nil]); first | done | rfl | (simp only [List.length_drop, List.length_take]; rfl)) ?_; (with_reducible refine (croftref1_Cut.calls a0 a1 t150 _ A3.out).mono ?_); rintro e w' ⟨rfl, ⟨nd, rfl⟩⟩; refine ⟨_, rfl, ?_⟩))
  (try simp only [Act.put, List.setIfInBounds_toArray, List.set_cons_zero, List.set_cons_succ])
  go_cut [35] (fun v35 wc => ∃ (kq : Nat) (x35_3 : Bool), v35 = .bool x35_3 ∧ Aside0 (croftlaw1_powers_uint64.j0 kq a1 a0 t150 x35_3 = some r) ∧ Aside0 (kq ≤ k) ∧ Drawn0 w wc)
  case first =>
    have H := HC4.out
    clear HC4
    replace H := Option.bind_eq_some_iff.mp H
    obtain ⟨t151, A50, H⟩ := H
    replace H : ((croftref1_IsPower.f k t150 a1).bind fun t152 => (if (t151 != t152) = true then (croftlaw1_powers_uint64.j0 k a1 a0 t150 true) else ((bits_Log_uint64.f k a0).bind fun t153 => ((croftref1_Log.f k t150 a1).bind fun t154 => (if t153 = t154 then ((bits_Count_uint64.f a0).bind fun t155 => ((croftref1_Count.f k t150).bind fun t156 => (croftlaw1_powers_uint64.j0 k a1 a0 t150 (t155 != t156)))) else (croftlaw1_powers_uint64.j0 k a1 a0 t150 true)))))) = some r := H
    have A5 := Aside0.mk A50
    clear A50
    replace H := Option.bind_eq_some_iff.mp H
    obtain ⟨t152, A60, H⟩ := H
    replace H : (if (t151 != t152) = true then (croftlaw1_powers_uint64.j0 k a1 a0 t150 true) else ((bits_Log_uint64.f k a0).bind fun t153 => ((croftref1_Log.f k t150 a1).bind fun t154 => (if t153 = t154 then ((bits_Count_uint64.f a0).bind fun t155 => ((croftref1_Count.f k t150).bind fun t156 => (croftlaw1_powers_uint64.j0 k a1 a0 t150 (t155 != t156)))) else (croftlaw1_powers_uint64.j0 k a1 a0 t150 true))))) = some r := H
    have A6 := Aside0.mk A60
    clear A60
    by_cases c7 : (t151 != t152) = true
    · rw [if_pos c7] at H
      have c7b0 : (t151 != t152) = true := c7
      (try (have c7b1 : decide (t151 = t152) = false := by simpa using c7))
      (try (have c7b2 : (t151 == t152) = false := by simpa using c7))
      (try (have c7b3 : ¬ (t151 = t152) := by simpa using c7))
      clear c7
      (first | rw [c7b0] | (simp only [i64_w, i32_w]; rw [c7b0]) | skip)
      have H' := Aside0.mk H
      clear H
      go_wp2_with (first | ((with_reducible refine gate_callee (f := 33) rfl ?_); refine goesL_ (some 16) rfl rfl Try.func33 (by kernel_rfl) rfl #[.int .u64 a0] rfl (by (try simp only [List.map_toArray, List.map_cons, List.map_nil]); first | done | rfl | (simp only [List.length_drop, List.length_take]; rfl)) ?_; (with_reducible refine (bits_IsPower_uint64.calls a0 t151 _ A5.out).mono ?_); rintro e w' ⟨rfl, ⟨nd, rfl⟩⟩; refine ⟨_, rfl, ?_⟩) | ((with_reducible refine gate_callee (f := 68) rfl ?_); refine goesL_ (some 19) rfl rfl Try.func68 (by kernel_rfl) rfl #[.int .u64 t150, .int .i64 a1] rfl (by (try simp only [List.map_toArray, List.map_cons, List.map_nil]); first | done | rfl | (simp only [List.length_drop, List.length_take]; rfl)) ?_; (with_reducible refine (croftref1_IsPower.calls k t150 a1 t152 _ A6.out).mono ?_); rintro e w' ⟨rfl, ⟨nd, rfl⟩⟩; refine ⟨_, rfl, ?_⟩))
      go_meet
      case rel => exact ⟨_, (true), (by first | rfl | (simp; done) | (simp [*]; done)), H', ⟨by first | omega | exact Nat.le_refl _⟩, by repeat (first | exact Drawn0.refl _ | apply Drawn0.step)⟩
    · rw [if_neg c7] at H
      have c7b0 : (t151 != t152) = false := by simpa using c7
      (try (have c7b1 : decide (t151 = t152) = true := by simpa using c7))
      (try (have c7b2 : (t151 == t152) = true := by simpa using c7))
      clear c7
      (first | rw [c7b0] | (simp only [i64_w, i32_w]; rw [c7b0]) | skip)
      replace H := Option.bind_eq_some_iff.mp H
      obtain ⟨t153, A80, H⟩ := H
      replace H : ((croftref1_Log.f k t150 a1).bind fun t154 => (if t153 = t154 then ((bits_Count_uint64.f a0).bind fun t155 => ((croftref1_Count.f k t150).bind fun t156 => (croftlaw1_powers_uint64.j0 k a1 a0 t150 (t155 != t156)))) else (croftlaw1_powers_uint64.j0 k a1 a0 t150 true))) = some r := H
      have A8 := Aside0.mk A80
      clear A80
      replace H := Option.bind_eq_some_iff.mp H
      obtain ⟨t154, A90, H⟩ := H
      replace H : (if t153 = t154 then ((bits_Count_uint64.f a0).bind fun t155 => ((croftref1_Count.f k t150).bind fun t156 => (croftlaw1_powers_uint64.j0 k a1 a0 t150 (t155 != t156)))) else (croftlaw1_powers_uint64.j0 k a1 a0 t150 true)) = some r := H
      have A9 := Aside0.mk A90
      clear A90
      by_cases c10 : t153 = t154
      · rw [if_pos c10] at H
        have c10b0 : (t153 == t154) = true := beq_iff_eq.mpr c10
        have c10b1 : (t153 != t154) = false := bne_eq_false_iff_eq.mpr c10
        clear c10
        replace H := Option.bind_eq_some_iff.mp H
        obtain ⟨t155, A110, H⟩ := H
        replace H : ((croftref1_Count.f k t150).bind fun t156 => (croftlaw1_powers_uint64.j0 k a1 a0 t150 (t155 != t156))) = some r := H
        have A11 := Aside0.mk A110
        clear A110
        replace H := Option.bind_eq_some_iff.mp H
        obtain ⟨t156, A120, H⟩ := H
        replace H : (croftlaw1_powers_uint64.j0 k a1 a0 t150 (t155 != t156)) = some r := H
        have A12 := Aside0.mk A120
        clear A120
        have H' := Aside0.mk H
        clear H
        go_wp2_with (first | ((with_reducible refine gate_callee (f := 33) rfl ?_); refine goesL_ (some 16) rfl rfl Try.func33 (by kernel_rfl) rfl #[.int .u64 a0] rfl (by (try simp only [List.map_toArray, List.map_cons, List.map_nil]); first | done | rfl | (simp only [List.length_drop, List.length_take]; rfl)) ?_; (with_reducible refine (bits_IsPower_uint64.calls a0 t151 _ A5.out).mono ?_); rintro e w' ⟨rfl, ⟨nd, rfl⟩⟩; refine ⟨_, rfl, ?_⟩) | ((with_reducible refine gate_callee (f := 68) rfl ?_); refine goesL_ (some 19) rfl rfl Try.func68 (by kernel_rfl) rfl #[.int .u64 t150, .int .i64 a1] rfl (by (try simp only [List.map_toArray, List.map_cons, List.map_nil]); first | done | rfl | (simp only [List.length_drop, List.length_take]; rfl)) ?_; (with_reducible refine (croftref1_IsPower.calls k t150 a1 t152 _ A6.out).mono ?_); rintro e w' ⟨rfl, ⟨nd, rfl⟩⟩; refine ⟨_, rfl, ?_⟩) | (go_at_call 36; (with_reducible refine (bits_Log_uint64.calls k a0 t153 _ A8.out).mono ?_); rintro e w' ⟨rfl, ⟨nd, rfl⟩⟩) | (go_at_call 69; (with_reducible refine (croftref1_Log.calls k t150 a1 t154 _ A9.out).mono ?_); rintro e w' ⟨rfl, ⟨nd, rfl⟩⟩) | (go_at_call 35; (with_reducible refine (bits_Count_uint64.calls a0 t155 _ A11.out).mono ?_); rintro e w' ⟨rfl, ⟨nd, rfl⟩⟩) | (go_at_call 70; (with_reducible refine (croftref1_Count.calls k t150 t156 _ A12.out).mono ?_); rintro e w' ⟨rfl, ⟨nd, rfl⟩⟩))
        go_meet
        case rel => exact ⟨_, ((t155 != t156)), (by first | rfl | (simp; done) | (simp [*]; done)), H', ⟨by first | omega | exact Nat.le_refl _⟩, by repeat (first | exact Drawn0.refl _ | apply Drawn0.step)⟩
      · rw [if_neg c10] at H
        have c10b0 : (t153 == t154) = false := beq_eq_false_iff_ne.mpr c10
        have c10b1 : (t153 != t154) = true := bne_iff_ne.mpr c10
        have H' := Aside0.mk H
        clear H
        go_wp2_with (first | ((with_reducible refine gate_callee (f := 33) rfl ?_); refine goesL_ (some 16) rfl rfl Try.func33 (by kernel_rfl) rfl #[.int .u64 a0] rfl (by (try simp only [List.map_toArray, List.map_cons, List.map_nil]); first | done | rfl | (simp only [List.length_drop, List.length_take]; rfl)) ?_; (with_reducible refine (bits_IsPower_uint64.calls a0 t151 _ A5.out).mono ?_); rintro e w' ⟨rfl, ⟨nd, rfl⟩⟩; refine ⟨_, rfl, ?_⟩) | ((with_reducible refine gate_callee (f := 68) rfl ?_); refine goesL_ (some 19) rfl rfl Try.func68 (by kernel_rfl) rfl #[.int .u64 t150, .int .i64 a1] rfl (by (try simp only [List.map_toArray, List.map_cons, List.map_nil]); first | done | rfl | (simp only [List.length_drop, List.length_take]; rfl)) ?_; (with_reducible refine (croftref1_IsPower.calls k t150 a1 t152 _ A6.out).mono ?_); rintro e w' ⟨rfl, ⟨nd, rfl⟩⟩; refine ⟨_, rfl, ?_⟩) | (go_at_call 36; (with_reducible refine (bits_Log_uint64.calls k a0 t153 _ A8.out).mono ?_); rintro e w' ⟨rfl, ⟨nd, rfl⟩⟩) | (go_at_call 69; (with_reducible refine (croftref1_Log.calls k t150 a1 t154 _ A9.out).mono ?_); rintro e w' ⟨rfl, ⟨nd, rfl⟩⟩))
        go_meet
        case rel => exact ⟨_, (true), (by first | rfl | (simp; done) | (simp [*]; done)), H', ⟨by first | omega | exact Nat.le_refl _⟩, by repeat (first | exact Drawn0.refl _ | apply Drawn0.step)⟩
  case rest =>
    clear HC4
    try clear c1
    try clear c2
    try clear p2
    try clear c3
    try clear c5
    try clear c6
    try clear c7
    try clear c7b0
    try clear c7b1
    try clear c7b2
    try clear c10
    try clear c10b0
    try clear c10b1
    obtain ⟨kq, x35_3, rfl, HA, HJ3, ⟨mc3, rfl⟩⟩ := hcut
    cases kq with
    | zero => exact absurd HA.out (by simp [croftlaw1_powers_uint64.j0])
    | succ kj3 =>
      have H := HA.out
      clear HA
      simp only [croftlaw1_powers_uint64.j0] at H
      by_cases c13 : x35_3 = true
      · subst c13
        have H1 : (some false) = some r := by rw [if_pos rfl] at H; exact H
        clear H
        have H := H1
        clear H1
        obtain rfl := Option.some.inj H
        go_wp2
        go_ret
        exact ⟨by first | rfl | (simp; done) | (simp [*]; done), by repeat (first | exact Drawn0.refl _ | apply Drawn0.step)⟩
      · replace c13 := Bool.eq_false_iff.mpr c13
        subst c13
        have H1 : ((bits_Ceil_uint64.f kj3 a0).bind fun bt157 => ((croftref1_Ceil.f kj3 t150 a1).bind fun bt159 => (if bt157.1 = bt159.1 then (some (bt157.2 == bt159.2)) else (some false)))) = some r := by rw [if_neg (show ¬ (false = true) by decide)] at H; exact H
        clear H
        have H := H1
        clear H1
        replace H := Option.bind_eq_some_iff.mp H
        obtain ⟨⟨t157, t158⟩, A140, H⟩ := H
        replace H : ((croftref1_Ceil.f kj3 t150 a1).bind fun bt159 => (if t157 = bt159.1 then (some (t158 == bt159.2)) else (some false))) = some r := H
        have A14 := Aside0.mk A140
        clear A140
        replace H := Option.bind_eq_some_iff.mp H
        obtain ⟨⟨t159, t160⟩, A150, H⟩ := H
        replace H : (if t157 = t159 then (some (t158 == t160)) else (some false)) = some r := H
        have A15 := Aside0.mk A150
        clear A150
        by_cases c16 : t157 = t159
        · rw [if_pos c16] at H
          have c16b0 : (t157 == t159) = true := beq_iff_eq.mpr c16
          have c16b1 : (t157 != t159) = false := bne_eq_false_iff_eq.mpr c16
          clear c16
          obtain rfl := Option.some.inj H
          go_wp2_with (first | ((with_reducible refine gate_callee (f := 34) rfl ?_); refine goesL_ (some 38) rfl rfl Try.func34 (by kernel_rfl) rfl #[.int .u64 a0] rfl (by (try simp only [List.map_toArray, List.map_cons, List.map_nil]); first | done | rfl | (simp only [List.length_drop, List.length_take]; rfl)) ?_; (with_reducible refine (bits_Ceil_uint64.calls kj3 a0 t157 t158 _ A14.out).mono ?_); rintro e w' ⟨rfl, ⟨nd, rfl⟩⟩; refine ⟨_, rfl, ?_⟩) | ((with_reducible refine gate_callee (f := 71) rfl ?_); refine goesL_ (some 44) rfl rfl Try.func71 (by kernel_rfl) rfl #[.int .u64 t150, .int .i64 a1] rfl (by (try simp only [List.map_toArray, List.map_cons, List.map_nil]); first | done | rfl | (simp only [List.length_drop, List.length_take]; rfl)) ?_; (with_reducible refine (croftref1_Ceil.calls kj3 t150 a1 t159 t160 _ A15.out).mono ?_); rintro e w' ⟨rfl, ⟨nd, rfl⟩⟩; refine ⟨_, rfl, ?_⟩))
          go_ret
          exact ⟨by first | rfl | (simp; done) | (simp [*]; done), by repeat (first | exact Drawn0.refl _ | apply Drawn0.step)⟩
        · rw [if_neg c16] at H
          have c16b0 : (t157 == t159) = false := beq_eq_false_iff_ne.mpr c16
          have c16b1 : (t157 != t159) = true := bne_iff_ne.mpr c16
          obtain rfl := Option.some.inj H
          go_wp2_with (first | ((with_reducible refine gate_callee (f := 34) rfl ?_); refine goesL_ (some 38) rfl rfl Try.func34 (by kernel_rfl) rfl #[.int .u64 a0] rfl (by (try simp only [List.map_toArray, List.map_cons, List.map_nil]); first | done | rfl | (simp only [List.length_drop, List.length_take]; rfl)) ?_; (with_reducible refine (bits_Ceil_uint64.calls kj3 a0 t157 t158 _ A14.out).mono ?_); rintro e w' ⟨rfl, ⟨nd, rfl⟩⟩; refine ⟨_, rfl, ?_⟩) | ((with_reducible refine gate_callee (f := 71) rfl ?_); refine goesL_ (some 44) rfl rfl Try.func71 (by kernel_rfl) rfl #[.int .u64 t150, .int .i64 a1] rfl (by (try simp only [List.map_toArray, List.map_cons, List.map_nil]); first | done | rfl | (simp only [List.length_drop, List.length_take]; rfl)) ?_; (with_reducible refine (croftref1_Ceil.calls kj3 t150 a1 t159 t160 _ A15.out).mono ?_); rintro e w' ⟨rfl, ⟨nd, rfl⟩⟩; refine ⟨_, rfl, ?_⟩))
          go_ret
          exact ⟨by first | rfl | (simp; done) | (simp [*]; done), by repeat (first | exact Drawn0.refl _ | apply Drawn0.step)⟩

/-! ### croftlaw1_small_74: function 74 -/
def croftlaw1_small_74.f (k : Nat) (a0 : Int) : Option (Int) := (bits_Len64.f k (IntKind.u64.wrap (a0))).bind fun t161 => (some (wrap64 (t161 - 1)))
theorem croftlaw1_small_74.mono : ∀ a0 k, LeO (croftlaw1_small_74.f k a0) (croftlaw1_small_74.f (k + 1) a0) := by
  intro a0 k
  unfold croftlaw1_small_74.f
  repeat' first
      | (with_reducible exact bits_Len64.mono _ _)
      | (with_reducible exact LeO.refl _)
      | (with_reducible exact LeO.none _)
      | (with_reducible refine LeO.ite ?_ ?_)
      | (with_reducible refine LeO.bind ?_ (fun _ => ?_))
      | exact bits_Len64.mono _ _
      | exact LeO.none _
      | refine LeO.ite ?_ ?_
      | refine LeO.bind ?_ (fun _ => ?_)
set_option maxHeartbeats 8000000 in
set_option maxRecDepth 100000 in
theorem croftlaw1_small_74.calls (k : Nat) (a0 : Int) (r : Int) (w : World) (h : croftlaw1_small_74.f k a0 = some r) :
    Calls Try.prog 74 #[.int .u8 a0] w fun e w' => e = .returned (.int .i64 r) ∧ Drawn0 w w' := by
  have H : ((bits_Len64.f k (IntKind.u64.wrap (a0))).bind fun t161 => (some (wrap64 (t161 - 1)))) = some r := h
  clear h
  replace H := Option.bind_eq_some_iff.mp H
  obtain ⟨t161, A20, H⟩ := H
  replace H : (some (wrap64 (t161 - 1))) = some r := H
  have A2 := Aside0.mk A20
  clear A20
  obtain rfl := Option.some.inj H
  go_enter Try.func74, Try.ntmps74
  go_wp2_with (first | ((with_reducible refine gate_callee (f := 82) rfl ?_); refine goesL_ (some 5) rfl rfl Try.func82 (by kernel_rfl) rfl #[.int .u64 (IntKind.u64.wrap (a0))] rfl (by (try simp only [List.map_toArray, List.map_cons, List.map_nil]); first | done | rfl | (simp only [List.length_drop, List.length_take]; rfl)) ?_; (with_reducible refine (bits_Len64.calls k (IntKind.u64.wrap (a0)) t161 _ A2.out).mono ?_); rintro e w' ⟨rfl, ⟨nd, rfl⟩⟩; refine ⟨_, rfl, ?_⟩))
  go_ret
  exact ⟨by first | rfl | (simp; done) | (simp [*]; done), by repeat (first | exact Drawn0.refl _ | apply Drawn0.step)⟩

/-! ### croftlaw1_small_75: function 75 -/
def croftlaw1_small_75.f (a0 : Int) : Option (Int) := (bits_OnesCount64.f (IntKind.u64.wrap (a0))).bind fun t162 => (some t162)
set_option maxHeartbeats 8000000 in
set_option maxRecDepth 100000 in
theorem croftlaw1_small_75.calls (a0 : Int) (r : Int) (w : World) (h : croftlaw1_small_75.f a0 = some r) :
    Calls Try.prog 75 #[.int .u8 a0] w fun e w' => e = .returned (.int .i64 r) ∧ Drawn0 w w' := by
  have H : ((bits_OnesCount64.f (IntKind.u64.wrap (a0))).bind fun t162 => (some t162)) = some r := h
  clear h
  replace H := Option.bind_eq_some_iff.mp H
  obtain ⟨t162, A20, H⟩ := H
  replace H : (some t162) = some r := H
  have A2 := Aside0.mk A20
  clear A20
  obtain rfl := Option.some.inj H
  go_enter Try.func75, Try.ntmps75
  go_wp2_with (first | ((with_reducible refine gate_callee (f := 81) rfl ?_); refine goesL_ (some 5) rfl rfl Try.func81 (by kernel_rfl) rfl #[.int .u64 (IntKind.u64.wrap (a0))] rfl (by (try simp only [List.map_toArray, List.map_cons, List.map_nil]); first | done | rfl | (simp only [List.length_drop, List.length_take]; rfl)) ?_; (with_reducible refine (bits_OnesCount64.calls (IntKind.u64.wrap (a0)) t162 _ A2.out).mono ?_); rintro e w' ⟨rfl, ⟨nd, rfl⟩⟩; refine ⟨_, rfl, ?_⟩))
  go_ret
  exact ⟨by first | rfl | (simp; done) | (simp [*]; done), by repeat (first | exact Drawn0.refl _ | apply Drawn0.step)⟩

/-! ### croftlaw1_small_76: function 76 -/
def croftlaw1_small_76.f (k : Nat) (a0 : Int) : Option (Int × Bool) := if a0 ≤ 1 then (some (1, true)) else ((croftlaw1_small_74.f k ((a0 - 1) % 256)).bind fun t163 => (if 0 ≤ (wrap64 (t163 + 1)) then (some (shl .u8 1 (wrap64 (t163 + 1)), ((shl .u8 1 (wrap64 (t163 + 1))) != 0))) else (none)))
theorem croftlaw1_small_76.mono : ∀ a0 k, LeO (croftlaw1_small_76.f k a0) (croftlaw1_small_76.f (k + 1) a0) := by
  intro a0 k
  unfold croftlaw1_small_76.f
  repeat' first
      | (with_reducible exact croftlaw1_small_74.mono _ _)
      | (with_reducible exact LeO.refl _)
      | (with_reducible exact LeO.none _)
      | (with_reducible refine LeO.ite ?_ ?_)
      | (with_reducible refine LeO.bind ?_ (fun _ => ?_))
      | exact croftlaw1_small_74.mono _ _
      | exact LeO.none _
      | refine LeO.ite ?_ ?_
      | refine LeO.bind ?_ (fun _ => ?_)
set_option maxHeartbeats 8000000 in
set_option maxRecDepth 100000 in
theorem croftlaw1_small_76.calls (k : Nat) (a0 : Int) (r1 : Int) (r2 : Bool) (w : World) (h : croftlaw1_small_76.f k a0 = some (r1, r2)) :
    Calls Try.prog 76 #[.int .u8 a0] w fun e w' => e = .returned (.tuple #[.int .u8 r1, .bool r2]) ∧ Drawn0 w w' := by
  have H : (if a0 ≤ 1 then (some (1, true)) else ((croftlaw1_small_74.f k ((a0 - 1) % 256)).bind fun t163 => (if 0 ≤ (wrap64 (t163 + 1)) then (some (shl .u8 1 (wrap64 (t163 + 1)), ((shl .u8 1 (wrap64 (t163 + 1))) != 0))) else (none)))) = some (r1, r2) := h
  clear h
  by_cases c2 : a0 ≤ 1
  · rw [if_pos c2] at H
    have c2b0 : decide (a0 ≤ 1) = true := decide_eq_true c2
    clear c2
    simp only [Option.some.injEq, Prod.mk.injEq] at H
    obtain ⟨rfl, rfl⟩ := H
    go_enter Try.func76, Try.ntmps76
    go_wp2
    go_ret2
    exact ⟨by first | rfl | (simp; done) | (simp [*]; done), by repeat (first | exact Drawn0.refl _ | apply Drawn0.step)⟩
  · rw [if_neg c2] at H
    have c2b0 : decide (a0 ≤ 1) = false := decide_eq_false c2
    clear c2
    replace H := Option.bind_eq_some_iff.mp H
    obtain ⟨t163, A30, H⟩ := H
    replace H : (if 0 ≤ (wrap64 (t163 + 1)) then (some (shl .u8 1 (wrap64 (t163 + 1)), ((shl .u8 1 (wrap64 (t163 + 1))) != 0))) else (none)) = some (r1, r2) := H
    have A3 := Aside0.mk A30
    clear A30
    obtain ⟨ji4, hji4⟩ : ∃ j_ : Int, (wrap64 (t163 + 1)) = j_ := ⟨_, rfl⟩
    replace H : (if 0 ≤ (ji4) then (some (shl .u8 1 (ji4), ((shl .u8 1 (ji4)) != 0))) else (none)) = some (r1, r2) := by first | (rw [hji4] at H; exact H) | (simp only [hji4] at H ⊢; exact H)
    (try rw [hji4] at A3)
    have hji4w : (IntKind.i64.wrap (t163 + 1)) = ji4 := (i64_w _).trans hji4
    by_cases c5 : 0 ≤ (ji4)
    · rw [if_pos c5] at H
      have c5b0 := eq_true c5
      have c5b1 : decide (0 ≤ (ji4)) = true := decide_eq_true c5
      clear c5
      obtain ⟨ji6, hji6⟩ : ∃ j_ : Int, (shl .u8 1 (ji4)) = j_ := ⟨_, rfl⟩
      replace H : (some (ji6, ((ji6) != 0))) = some (r1, r2) := by first | (rw [hji6] at H; exact H) | (simp only [hji6] at H ⊢; exact H)
      (try rw [hji6] at A3)
      have hji6_ : (IntKind.u8.wrap (1 * 2 ^ min (ji4).toNat 8)) = ji6 := hji6
      have hji6z : (ji4) ≤ 8 → (IntKind.u8.wrap (1 * 2 ^ (ji4).toNat)) = ji6 := shl_small hji6
      have hji6u : (IntKind.u8.wrap (2 ^ min (ji4).toNat 8)) = ji6 := by have h_ := hji6_; rw [Int.one_mul] at h_; exact h_
      have hji6v : (ji4) ≤ 8 → (IntKind.u8.wrap (2 ^ (ji4).toNat)) = ji6 := fun hle_ => by have h_ := hji6z hle_; rw [Int.one_mul] at h_; exact h_
      simp only [Option.some.injEq, Prod.mk.injEq] at H
      obtain ⟨rfl, rfl⟩ := H
      go_enter Try.func76, Try.ntmps76
      go_wp2_with (first | ((with_reducible refine gate_callee (f := 74) rfl ?_); refine goesL_ (some 10) rfl rfl Try.func74 (by kernel_rfl) rfl #[.int .u8 ((a0 - 1) % 256)] rfl (by (try simp only [List.map_toArray, List.map_cons, List.map_nil]); first | done | rfl | (simp only [List.length_drop, List.length_take]; rfl)) ?_; (with_reducible refine (croftlaw1_small_74.calls k ((a0 - 1) % 256) t163 _ A3.out).mono ?_); rintro e w' ⟨rfl, ⟨nd, rfl⟩⟩; refine ⟨_, rfl, ?_⟩))
      go_ret2
      exact ⟨by first | rfl | (simp; done) | (simp only [← hji4, ← hji6] <;> (first | rfl | simp)) | (simp [*]; done), by repeat (first | exact Drawn0.refl _ | apply Drawn0.step)⟩
    · rw [if_neg c5] at H
      exact absurd H (by simp)

/-! ### croftlaw1_small_29: function 29 -/
def croftlaw1_small_29.j0 : Nat → Int → Int → Int → Bool → Option (Bool)
  | 0, _, _, _, _ => none
  | k + 1, x1, x5, x6, x36 => if x36 = true then (some false) else ((croftlaw1_small_76.f k x5).bind fun bt171 => ((croftref1_Ceil.f k x6 x1).bind fun bt173 => (if (IntKind.u64.wrap (bt171.1)) = bt173.1 then (some (bt171.2 == bt173.2)) else (some false))))
def croftlaw1_small_29.f (k : Nat) (a0 : Int) (a1 : Int) : Option (Bool) := (croftref1_Cut.f a0 a1).bind fun t164 => ((croftlaw1_small_73.f ((a0) % 256)).bind fun t165 => ((croftref1_IsPower.f k t164 a1).bind fun t166 => (if (t165 != t166) = true then (croftlaw1_small_29.j0 k a1 ((a0) % 256) t164 true) else ((croftlaw1_small_74.f k ((a0) % 256)).bind fun t167 => ((croftref1_Log.f k t164 a1).bind fun t168 => (if t167 = t168 then ((croftlaw1_small_75.f ((a0) % 256)).bind fun t169 => ((croftref1_Count.f k t164).bind fun t170 => (croftlaw1_small_29.j0 k a1 ((a0) % 256) t164 (t169 != t170)))) else (croftlaw1_small_29.j0 k a1 ((a0) % 256) t164 true)))))))
theorem croftlaw1_small_29.mono_l : ∀ k, (∀ y0 y1 y2 y3, LeO (croftlaw1_small_29.j0 k y0 y1 y2 y3) (croftlaw1_small_29.j0 (k + 1) y0 y1 y2 y3))
  | 0 => fun _ _ _ _ r h => by simp [croftlaw1_small_29.j0] at h
  | k + 1 => by
    have ih0 := croftlaw1_small_29.mono_l k
    · intro y0 y1 y2 y3
      unfold croftlaw1_small_29.j0
      repeat' first
      | (with_reducible exact ih0 _ _ _ _)
      | (with_reducible exact croftlaw1_small_74.mono _ _)
      | (with_reducible exact croftlaw1_small_76.mono _ _)
      | (with_reducible exact croftref1_Ceil.mono _ _ _)
      | (with_reducible exact croftref1_Count.mono _ _)
      | (with_reducible exact croftref1_IsPower.mono _ _ _)
      | (with_reducible exact croftref1_Log.mono _ _ _)
      | (with_reducible exact LeO.refl _)
      | (with_reducible exact LeO.none _)
      | (with_reducible refine LeO.ite ?_ ?_)
      | (with_reducible refine LeO.bind ?_ (fun _ => ?_))
      | exact ih0 _ _ _ _
      | exact croftlaw1_small_74.mono _ _
      | exact croftlaw1_small_76.mono _ _
      | exact croftref1_Ceil.mono _ _ _
      | exact croftref1_Count.mono _ _
      | exact croftref1_IsPower.mono _ _ _
      | exact croftref1_Log.mono _ _ _
      | exact LeO.none _
      | refine LeO.ite ?_ ?_
      | refine LeO.bind ?_ (fun _ => ?_)
theorem croftlaw1_small_29.mono : ∀ a0 a1 k, LeO (croftlaw1_small_29.f k a0 a1) (croftlaw1_small_29.f (k + 1) a0 a1) := by
  intro a0 a1 k
  have ih0 := croftlaw1_small_29.mono_l k
  unfold croftlaw1_small_29.f
  repeat' first
      | (with_reducible exact ih0 _ _ _ _)
      | (with_reducible exact croftlaw1_small_74.mono _ _)
      | (with_reducible exact croftlaw1_small_76.mono _ _)
      | (with_reducible exact croftref1_Ceil.mono _ _ _)
      | (with_reducible exact croftref1_Count.mono _ _)
      | (with_reducible exact croftref1_IsPower.mono _ _ _)
      | (with_reducible exact croftref1_Log.mono _ _ _)
      | (with_reducible exact LeO.refl _)
      | (with_reducible exact LeO.none _)
      | (with_reducible refine LeO.ite ?_ ?_)
      | (with_reducible refine LeO.bind ?_ (fun _ => ?_))
      | exact ih0 _ _ _ _
      | exact croftlaw1_small_74.mono _ _
      | exact croftlaw1_small_76.mono _ _
      | exact croftref1_Ceil.mono _ _ _
      | exact croftref1_Count.mono _ _
      | exact croftref1_IsPower.mono _ _ _
      | exact croftref1_Log.mono _ _ _
      | exact LeO.none _
      | refine LeO.ite ?_ ?_
      | refine LeO.bind ?_ (fun _ => ?_)
set_option maxHeartbeats 8000000 in
set_option maxRecDepth 100000 in
theorem croftlaw1_small_29.calls (k : Nat) (a0 : Int) (a1 : Int) (r : Bool) (w : World) (h : croftlaw1_small_29.f k a0 a1 = some r) :
    Calls Try.prog 29 #[.int .u64 a0, .int .i64 a1] w fun e w' => e = .returned (.bool r) ∧ Drawn0 w w' := by
  have H : ((croftref1_Cut.f a0 a1).bind fun t164 => ((croftlaw1_small_73.f ((a0) % 256)).bind fun t165 => ((croftref1_IsPower.f k t164 a1).bind fun t166 => (if (t165 != t166) = true then (croftlaw1_small_29.j0 k a1 ((a0) % 256) t164 true) else ((croftlaw1_small_74.f k ((a0) % 256)).bind fun t167 => ((croftref1_Log.f k t164 a1).bind fun t168 => (if t167 = t168 then ((croftlaw1_small_75.f ((a0) % 256)).bind fun t169 => ((croftref1_Count.f k t164).bind fun t170 => (croftlaw1_small_29.j0 k a1 ((a0) % 256) t164 (t169 != t170)))) else (croftlaw1_small_29.j0 k a1 ((a0) % 256) t164 true)))))))) = some r := h
  clear h
  replace H := Option.bind_eq_some_iff.mp H
  obtain ⟨t164, A30, H⟩ := H
  replace H : ((croftlaw1_small_73.f ((a0) % 256)).bind fun t165 => ((croftref1_IsPower.f k t164 a1).bind fun t166 => (if (t165 != t166) = true then (croftlaw1_small_29.j0 k a1 ((a0) % 256) t164 true) else ((croftlaw1_small_74.f k ((a0) % 256)).bind fun t167 => ((croftref1_Log.f k t164 a1).bind fun t168 => (if t167 = t168 then ((croftlaw1_small_75.f ((a0) % 256)).bind fun t169 => ((croftref1_Count.f k t164).bind fun t170 => (croftlaw1_small_29.j0 k a1 ((a0) % 256) t164 (t169 != t170)))) else (croftlaw1_small_29.j0 k a1 ((a0) % 256) t164 true))))))) = some r := H
  have A3 := Aside0.mk A30
  clear A30
  have HC4 := Aside0.mk H
  clear H
  go_enter Try.func29, Try.ntmps29
  go_upto_region 3 with (first | ((with_reducible refine gate_callee (f := 52) rfl ?_); refine goesL_ (some 15) rfl rfl Try.func52 (by kernel_rfl) rfl #[.int .u64 a0, .int .i64 a1] rfl (by (try simp only [List.map_toArray, List.map_cons, List.map_nil]); first | done | rfl | (simp only [List.length_drop, List.length_take]; rfl)) ?_; (with_reducible refine (croftref1_Cut.calls a0 a1 t164 _ A3.out).mono ?_); rintro e w' ⟨rfl, ⟨nd, rfl⟩⟩; refine ⟨_, rfl, ?_⟩))
  (try simp only [Act.put, List.setIfInBounds_toArray, List.set_cons_zero, List.set_cons_succ])
  go_cut [36] (fun v36 wc => ∃ (kq : Nat) (x36_3 : Bool), v36 = .bool x36_3 ∧ Aside0 (croftlaw1_small_29.j0 kq a1 ((a0) % 256) t164 x36_3 = some r) ∧ Aside0 (kq ≤ k) ∧ Drawn0 w wc)
  case first =>
    have H := HC4.out
    clear HC4
    replace H := Option.bind_eq_some_iff.mp H
    obtain ⟨t165, A50, H⟩ := H
    replace H : ((croftref1_IsPower.f k t164 a1).bind fun t166 => (if (t165 != t166) = true then (croftlaw1_small_29.j0 k a1 ((a0) % 256) t164 true) else ((croftlaw1_small_74.f k ((a0) % 256)).bind fun t167 => ((croftref1_Log.f k t164 a1).bind fun t168 => (if t167 = t168 then ((croftlaw1_small_75.f ((a0) % 256)).bind fun t169 => ((croftref1_Count.f k t164).bind fun t170 => (croftlaw1_small_29.j0 k a1 ((a0) % 256) t164 (t169 != t170)))) else (croftlaw1_small_29.j0 k a1 ((a0) % 256) t164 true)))))) = some r := H
    have A5 := Aside0.mk A50
    clear A50
    replace H := Option.bind_eq_some_iff.mp H
    obtain ⟨t166, A60, H⟩ := H
    replace H : (if (t165 != t166) = true then (croftlaw1_small_29.j0 k a1 ((a0) % 256) t164 true) else ((croftlaw1_small_74.f k ((a0) % 256)).bind fun t167 => ((croftref1_Log.f k t164 a1).bind fun t168 => (if t167 = t168 then ((croftlaw1_small_75.f ((a0) % 256)).bind fun t169 => ((croftref1_Count.f k t164).bind fun t170 => (croftlaw1_small_29.j0 k a1 ((a0) % 256) t164 (t169 != t170)))) else (croftlaw1_small_29.j0 k a1 ((a0) % 256) t164 true))))) = some r := H
    have A6 := Aside0.mk A60
    clear A60
    by_cases c7 : (t165 != t166) = true
    · rw [if_pos c7] at H
      have c7b0 : (t165 != t166) = true := c7
      (try (have c7b1 : decide (t165 = t166) = false := by simpa using c7))
      (try (have c7b2 : (t165 == t166) = false := by simpa using c7))
      (try (have c7b3 : ¬ (t165 = t166) := by simpa using c7))
      clear c7
      (first | rw [c7b0] | (simp only [i64_w, i32_w]; rw [c7b0]) | skip)
      have H' := Aside0.mk H
      clear H
      go_wp2_with (first | ((with_reducible refine gate_callee (f := 73) rfl ?_); refine goesL_ (some 17) rfl rfl Try.func73 (by kernel_rfl) rfl #[.int .u8 ((a0) % 256)] rfl (by (try simp only [List.map_toArray, List.map_cons, List.map_nil]); first | done | rfl | (simp only [List.length_drop, List.length_take]; rfl)) ?_; (with_reducible refine (croftlaw1_small_73.calls ((a0) % 256) t165 _ A5.out).mono ?_); rintro e w' ⟨rfl, ⟨nd, rfl⟩⟩; refine ⟨_, rfl, ?_⟩) | ((with_reducible refine gate_callee (f := 68) rfl ?_); refine goesL_ (some 20) rfl rfl Try.func68 (by kernel_rfl) rfl #[.int .u64 t164, .int .i64 a1] rfl (by (try simp only [List.map_toArray, List.map_cons, List.map_nil]); first | done | rfl | (simp only [List.length_drop, List.length_take]; rfl)) ?_; (with_reducible refine (croftref1_IsPower.calls k t164 a1 t166 _ A6.out).mono ?_); rintro e w' ⟨rfl, ⟨nd, rfl⟩⟩; refine ⟨_, rfl, ?_⟩))
      go_meet
      case rel => exact ⟨_, (true), (by first | rfl | (simp; done) | (simp [*]; done)), H', ⟨by first | omega | exact Nat.le_refl _⟩, by repeat (first | exact Drawn0.refl _ | apply Drawn0.step)⟩
    · rw [if_neg c7] at H
      have c7b0 : (t165 != t166) = false := by simpa using c7
      (try (have c7b1 : decide (t165 = t166) = true := by simpa using c7))
      (try (have c7b2 : (t165 == t166) = true := by simpa using c7))
      clear c7
      (first | rw [c7b0] | (simp only [i64_w, i32_w]; rw [c7b0]) | skip)
      replace H := Option.bind_eq_some_iff.mp H
      obtain ⟨t167, A80, H⟩ := H
      replace H : ((croftref1_Log.f k t164 a1).bind fun t168 => (if t167 = t168 then ((croftlaw1_small_75.f ((a0) % 256)).bind fun t169 => ((croftref1_Count.f k t164).bind fun t170 => (croftlaw1_small_29.j0 k a1 ((a0) % 256) t164 (t169 != t170)))) else (croftlaw1_small_29.j0 k a1 ((a0) % 256) t164 true))) = some r := H
      have A8 := Aside0.mk A80
      clear A80
      replace H := Option.bind_eq_some_iff.mp H
      obtain ⟨t168, A90, H⟩ := H
      replace H : (if t167 = t168 then ((croftlaw1_small_75.f ((a0) % 256)).bind fun t169 => ((croftref1_Count.f k t164).bind fun t170 => (croftlaw1_small_29.j0 k a1 ((a0) % 256) t164 (t169 != t170)))) else (croftlaw1_small_29.j0 k a1 ((a0) % 256) t164 true)) = some r := H
      have A9 := Aside0.mk A90
      clear A90
      by_cases c10 : t167 = t168
      · rw [if_pos c10] at H
        have c10b0 : (t167 == t168) = true := beq_iff_eq.mpr c10
        have c10b1 : (t167 != t168) = false := bne_eq_false_iff_eq.mpr c10
        clear c10
        replace H := Option.bind_eq_some_iff.mp H
        obtain ⟨t169, A110, H⟩ := H
        replace H : ((croftref1_Count.f k t164).bind fun t170 => (croftlaw1_small_29.j0 k a1 ((a0) % 256) t164 (t169 != t170))) = some r := H
        have A11 := Aside0.mk A110
        clear A110
        replace H := Option.bind_eq_some_iff.mp H
        obtain ⟨t170, A120, H⟩ := H
        replace H : (croftlaw1_small_29.j0 k a1 ((a0) % 256) t164 (t169 != t170)) = some r := H
        have A12 := Aside0.mk A120
        clear A120
        have H' := Aside0.mk H
        clear H
        go_wp2_with (first | ((with_reducible refine gate_callee (f := 73) rfl ?_); refine goesL_ (some 17) rfl rfl Try.func73 (by kernel_rfl) rfl #[.int .u8 ((a0) % 256)] rfl (by (try simp only [List.map_toArray, List.map_cons, List.map_nil]); first | done | rfl | (simp only [List.length_drop, List.length_take]; rfl)) ?_; (with_reducible refine (croftlaw1_small_73.calls ((a0) % 256) t165 _ A5.out).mono ?_); rintro e w' ⟨rfl, ⟨nd, rfl⟩⟩; refine ⟨_, rfl, ?_⟩) | ((with_reducible refine gate_callee (f := 68) rfl ?_); refine goesL_ (some 20) rfl rfl Try.func68 (by kernel_rfl) rfl #[.int .u64 t164, .int .i64 a1] rfl (by (try simp only [List.map_toArray, List.map_cons, List.map_nil]); first | done | rfl | (simp only [List.length_drop, List.length_take]; rfl)) ?_; (with_reducible refine (croftref1_IsPower.calls k t164 a1 t166 _ A6.out).mono ?_); rintro e w' ⟨rfl, ⟨nd, rfl⟩⟩; refine ⟨_, rfl, ?_⟩) | (go_at_call 74; (with_reducible refine (croftlaw1_small_74.calls k ((a0) % 256) t167 _ A8.out).mono ?_); rintro e w' ⟨rfl, ⟨nd, rfl⟩⟩) | (go_at_call 69; (with_reducible refine (croftref1_Log.calls k t164 a1 t168 _ A9.out).mono ?_); rintro e w' ⟨rfl, ⟨nd, rfl⟩⟩) | (go_at_call 75; (with_reducible refine (croftlaw1_small_75.calls ((a0) % 256) t169 _ A11.out).mono ?_); rintro e w' ⟨rfl, ⟨nd, rfl⟩⟩) | (go_at_call 70; (with_reducible refine (croftref1_Count.calls k t164 t170 _ A12.out).mono ?_); rintro e w' ⟨rfl, ⟨nd, rfl⟩⟩))
        go_meet
        case rel => exact ⟨_, ((t169 != t170)), (by first | rfl | (simp; done) | (simp [*]; done)), H', ⟨by first | omega | exact Nat.le_refl _⟩, by repeat (first | exact Drawn0.refl _ | apply Drawn0.step)⟩
      · rw [if_neg c10] at H
        have c10b0 : (t167 == t168) = false := beq_eq_false_iff_ne.mpr c10
        have c10b1 : (t167 != t168) = true := bne_iff_ne.mpr c10
        have H' := Aside0.mk H
        clear H
        go_wp2_with (first | ((with_reducible refine gate_callee (f := 73) rfl ?_); refine goesL_ (some 17) rfl rfl Try.func73 (by kernel_rfl) rfl #[.int .u8 ((a0) % 256)] rfl (by (try simp only [List.map_toArray, List.map_cons, List.map_nil]); first | done | rfl | (simp only [List.length_drop, List.length_take]; rfl)) ?_; (with_reducible refine (croftlaw1_small_73.calls ((a0) % 256) t165 _ A5.out).mono ?_); rintro e w' ⟨rfl, ⟨nd, rfl⟩⟩; refine ⟨_, rfl, ?_⟩) | ((with_reducible refine gate_callee (f := 68) rfl ?_); refine goesL_ (some 20) rfl rfl Try.func68 (by kernel_rfl) rfl #[.int .u64 t164, .int .i64 a1] rfl (by (try simp only [List.map_toArray, List.map_cons, List.map_nil]); first | done | rfl | (simp only [List.length_drop, List.length_take]; rfl)) ?_; (with_reducible refine (croftref1_IsPower.calls k t164 a1 t166 _ A6.out).mono ?_); rintro e w' ⟨rfl, ⟨nd, rfl⟩⟩; refine ⟨_, rfl, ?_⟩) | (go_at_call 74; (with_reducible refine (croftlaw1_small_74.calls k ((a0) % 256) t167 _ A8.out).mono ?_); rintro e w' ⟨rfl, ⟨nd, rfl⟩⟩) | (go_at_call 69; (with_reducible refine (croftref1_Log.calls k t164 a1 t168 _ A9.out).mono ?_); rintro e w' ⟨rfl, ⟨nd, rfl⟩⟩))
        go_meet
        case rel => exact ⟨_, (true), (by first | rfl | (simp; done) | (simp [*]; done)), H', ⟨by first | omega | exact Nat.le_refl _⟩, by repeat (first | exact Drawn0.refl _ | apply Drawn0.step)⟩
  case rest =>
    clear HC4
    try clear c1
    try clear c2
    try clear p2
    try clear c5
    try clear c6
    try clear c7
    try clear c7b0
    try clear c7b1
    try clear c7b2
    try clear c10
    try clear c10b0
    try clear c10b1
    obtain ⟨kq, x36_3, rfl, HA, HJ3, ⟨mc3, rfl⟩⟩ := hcut
    cases kq with
    | zero => exact absurd HA.out (by simp [croftlaw1_small_29.j0])
    | succ kj3 =>
      have H := HA.out
      clear HA
      simp only [croftlaw1_small_29.j0] at H
      by_cases c13 : x36_3 = true
      · subst c13
        have H1 : (some false) = some r := by rw [if_pos rfl] at H; exact H
        clear H
        have H := H1
        clear H1
        obtain rfl := Option.some.inj H
        go_wp2
        go_ret
        exact ⟨by first | rfl | (simp; done) | (simp [*]; done), by repeat (first | exact Drawn0.refl _ | apply Drawn0.step)⟩
      · replace c13 := Bool.eq_false_iff.mpr c13
        subst c13
        have H1 : ((croftlaw1_small_76.f kj3 ((a0) % 256)).bind fun bt171 => ((croftref1_Ceil.f kj3 t164 a1).bind fun bt173 => (if (IntKind.u64.wrap (bt171.1)) = bt173.1 then (some (bt171.2 == bt173.2)) else (some false)))) = some r := by rw [if_neg (show ¬ (false = true) by decide)] at H; exact H
        clear H
        have H := H1
        clear H1
        replace H := Option.bind_eq_some_iff.mp H
        obtain ⟨⟨t171, t172⟩, A140, H⟩ := H
        replace H : ((croftref1_Ceil.f kj3 t164 a1).bind fun bt173 => (if (IntKind.u64.wrap (t171)) = bt173.1 then (some (t172 == bt173.2)) else (some false))) = some r := H
        have A14 := Aside0.mk A140
        clear A140
        replace H := Option.bind_eq_some_iff.mp H
        obtain ⟨⟨t173, t174⟩, A150, H⟩ := H
        replace H : (if (IntKind.u64.wrap (t171)) = t173 then (some (t172 == t174)) else (some false)) = some r := H
        have A15 := Aside0.mk A150
        clear A150
        by_cases c16 : (IntKind.u64.wrap (t171)) = t173
        · rw [if_pos c16] at H
          have c16b0 : ((IntKind.u64.wrap (t171)) == t173) = true := beq_iff_eq.mpr c16
          have c16b1 : ((IntKind.u64.wrap (t171)) != t173) = false := bne_eq_false_iff_eq.mpr c16
          clear c16
          obtain rfl := Option.some.inj H
          go_wp2_with (first | ((with_reducible refine gate_callee (f := 76) rfl ?_); refine goesL_ (some 39) rfl rfl Try.func76 (by kernel_rfl) rfl #[.int .u8 ((a0) % 256)] rfl (by (try simp only [List.map_toArray, List.map_cons, List.map_nil]); first | done | rfl | (simp only [List.length_drop, List.length_take]; rfl)) ?_; (with_reducible refine (croftlaw1_small_76.calls kj3 ((a0) % 256) t171 t172 _ A14.out).mono ?_); rintro e w' ⟨rfl, ⟨nd, rfl⟩⟩; refine ⟨_, rfl, ?_⟩) | ((with_reducible refine gate_callee (f := 71) rfl ?_); refine goesL_ (some 45) rfl rfl Try.func71 (by kernel_rfl) rfl #[.int .u64 t164, .int .i64 a1] rfl (by (try simp only [List.map_toArray, List.map_cons, List.map_nil]); first | done | rfl | (simp only [List.length_drop, List.length_take]; rfl)) ?_; (with_reducible refine (croftref1_Ceil.calls kj3 t164 a1 t173 t174 _ A15.out).mono ?_); rintro e w' ⟨rfl, ⟨nd, rfl⟩⟩; refine ⟨_, rfl, ?_⟩))
          go_ret
          exact ⟨by first | rfl | (simp; done) | (simp [*]; done), by repeat (first | exact Drawn0.refl _ | apply Drawn0.step)⟩
        · rw [if_neg c16] at H
          have c16b0 : ((IntKind.u64.wrap (t171)) == t173) = false := beq_eq_false_iff_ne.mpr c16
          have c16b1 : ((IntKind.u64.wrap (t171)) != t173) = true := bne_iff_ne.mpr c16
          obtain rfl := Option.some.inj H
          go_wp2_with (first | ((with_reducible refine gate_callee (f := 76) rfl ?_); refine goesL_ (some 39) rfl rfl Try.func76 (by kernel_rfl) rfl #[.int .u8 ((a0) % 256)] rfl (by (try simp only [List.map_toArray, List.map_cons, List.map_nil]); first | done | rfl | (simp only [List.length_drop, List.length_take]; rfl)) ?_; (with_reducible refine (croftlaw1_small_76.calls kj3 ((a0) % 256) t171 t172 _ A14.out).mono ?_); rintro e w' ⟨rfl, ⟨nd, rfl⟩⟩; refine ⟨_, rfl, ?_⟩) | ((with_reducible refine gate_callee (f := 71) rfl ?_); refine goesL_ (some 45) rfl rfl Try.func71 (by kernel_rfl) rfl #[.int .u64 t164, .int .i64 a1] rfl (by (try simp only [List.map_toArray, List.map_cons, List.map_nil]); first | done | rfl | (simp only [List.length_drop, List.length_take]; rfl)) ?_; (with_reducible refine (croftref1_Ceil.calls kj3 t164 a1 t173 t174 _ A15.out).mono ?_); rintro e w' ⟨rfl, ⟨nd, rfl⟩⟩; refine ⟨_, rfl, ?_⟩))
          go_ret
          exact ⟨by first | rfl | (simp; done) | (simp [*]; done), by repeat (first | exact Drawn0.refl _ | apply Drawn0.step)⟩

/-! ### croftlaw1_wide_78: function 78 -/
def croftlaw1_wide_78.f (k : Nat) (a0 : Int) : Option (Int) := (bits_Len64.f k a0).bind fun t175 => (some (wrap64 (t175 - 1)))
theorem croftlaw1_wide_78.mono : ∀ a0 k, LeO (croftlaw1_wide_78.f k a0) (croftlaw1_wide_78.f (k + 1) a0) := by
  intro a0 k
  unfold croftlaw1_wide_78.f
  repeat' first
      | (with_reducible exact bits_Len64.mono _ _)
      | (with_reducible exact LeO.refl _)
      | (with_reducible exact LeO.none _)
      | (with_reducible refine LeO.ite ?_ ?_)
      | (with_reducible refine LeO.bind ?_ (fun _ => ?_))
      | exact bits_Len64.mono _ _
      | exact LeO.none _
      | refine LeO.ite ?_ ?_
      | refine LeO.bind ?_ (fun _ => ?_)
set_option maxHeartbeats 8000000 in
set_option maxRecDepth 100000 in
theorem croftlaw1_wide_78.calls (k : Nat) (a0 : Int) (r : Int) (w : World) (h : croftlaw1_wide_78.f k a0 = some r) :
    Calls Try.prog 78 #[.int .u64 a0] w fun e w' => e = .returned (.int .i64 r) ∧ Drawn0 w w' := by
  have H : ((bits_Len64.f k a0).bind fun t175 => (some (wrap64 (t175 - 1)))) = some r := h
  clear h
  replace H := Option.bind_eq_some_iff.mp H
  obtain ⟨t175, A20, H⟩ := H
  replace H : (some (wrap64 (t175 - 1))) = some r := H
  have A2 := Aside0.mk A20
  clear A20
  obtain rfl := Option.some.inj H
  go_enter Try.func78, Try.ntmps78
  go_wp2_with (first | ((with_reducible refine gate_callee (f := 82) rfl ?_); refine goesL_ (some 4) rfl rfl Try.func82 (by kernel_rfl) rfl #[.int .u64 a0] rfl (by (try simp only [List.map_toArray, List.map_cons, List.map_nil]); first | done | rfl | (simp only [List.length_drop, List.length_take]; rfl)) ?_; (with_reducible refine (bits_Len64.calls k a0 t175 _ A2.out).mono ?_); rintro e w' ⟨rfl, ⟨nd, rfl⟩⟩; refine ⟨_, rfl, ?_⟩))
  go_ret
  exact ⟨by first | rfl | (simp; done) | (simp [*]; done), by repeat (first | exact Drawn0.refl _ | apply Drawn0.step)⟩

/-! ### croftlaw1_wide_79: function 79 -/
def croftlaw1_wide_79.f (a0 : Int) : Option (Int) := (bits_OnesCount64.f a0).bind fun t176 => (some t176)
set_option maxHeartbeats 8000000 in
set_option maxRecDepth 100000 in
theorem croftlaw1_wide_79.calls (a0 : Int) (r : Int) (w : World) (h : croftlaw1_wide_79.f a0 = some r) :
    Calls Try.prog 79 #[.int .u64 a0] w fun e w' => e = .returned (.int .i64 r) ∧ Drawn0 w w' := by
  have H : ((bits_OnesCount64.f a0).bind fun t176 => (some t176)) = some r := h
  clear h
  replace H := Option.bind_eq_some_iff.mp H
  obtain ⟨t176, A20, H⟩ := H
  replace H : (some t176) = some r := H
  have A2 := Aside0.mk A20
  clear A20
  obtain rfl := Option.some.inj H
  go_enter Try.func79, Try.ntmps79
  go_wp2_with (first | ((with_reducible refine gate_callee (f := 81) rfl ?_); refine goesL_ (some 4) rfl rfl Try.func81 (by kernel_rfl) rfl #[.int .u64 a0] rfl (by (try simp only [List.map_toArray, List.map_cons, List.map_nil]); first | done | rfl | (simp only [List.length_drop, List.length_take]; rfl)) ?_; (with_reducible refine (bits_OnesCount64.calls a0 t176 _ A2.out).mono ?_); rintro e w' ⟨rfl, ⟨nd, rfl⟩⟩; refine ⟨_, rfl, ?_⟩))
  go_ret
  exact ⟨by first | rfl | (simp; done) | (simp [*]; done), by repeat (first | exact Drawn0.refl _ | apply Drawn0.step)⟩

/-! ### croftlaw1_wide_80: function 80 -/
def croftlaw1_wide_80.f (k : Nat) (a0 : Int) : Option (Int × Bool) := if a0 ≤ 1 then (some (1, true)) else ((croftlaw1_wide_78.f k (IntKind.u64.wrap (a0 - 1))).bind fun t177 => (if 0 ≤ (wrap64 (t177 + 1)) then (some (shl .u64 1 (wrap64 (t177 + 1)), ((shl .u64 1 (wrap64 (t177 + 1))) != 0))) else (none)))
theorem croftlaw1_wide_80.mono : ∀ a0 k, LeO (croftlaw1_wide_80.f k a0) (croftlaw1_wide_80.f (k + 1) a0) := by
  intro a0 k
  unfold croftlaw1_wide_80.f
  repeat' first
      | (with_reducible exact croftlaw1_wide_78.mono _ _)
      | (with_reducible exact LeO.refl _)
      | (with_reducible exact LeO.none _)
      | (with_reducible refine LeO.ite ?_ ?_)
      | (with_reducible refine LeO.bind ?_ (fun _ => ?_))
      | exact croftlaw1_wide_78.mono _ _
      | exact LeO.none _
      | refine LeO.ite ?_ ?_
      | refine LeO.bind ?_ (fun _ => ?_)
set_option maxHeartbeats 8000000 in
set_option maxRecDepth 100000 in
theorem croftlaw1_wide_80.calls (k : Nat) (a0 : Int) (r1 : Int) (r2 : Bool) (w : World) (h : croftlaw1_wide_80.f k a0 = some (r1, r2)) :
    Calls Try.prog 80 #[.int .u64 a0] w fun e w' => e = .returned (.tuple #[.int .u64 r1, .bool r2]) ∧ Drawn0 w w' := by
  have H : (if a0 ≤ 1 then (some (1, true)) else ((croftlaw1_wide_78.f k (IntKind.u64.wrap (a0 - 1))).bind fun t177 => (if 0 ≤ (wrap64 (t177 + 1)) then (some (shl .u64 1 (wrap64 (t177 + 1)), ((shl .u64 1 (wrap64 (t177 + 1))) != 0))) else (none)))) = some (r1, r2) := h
  clear h
  by_cases c2 : a0 ≤ 1
  · rw [if_pos c2] at H
    have c2b0 : decide (a0 ≤ 1) = true := decide_eq_true c2
    clear c2
    simp only [Option.some.injEq, Prod.mk.injEq] at H
    obtain ⟨rfl, rfl⟩ := H
    go_enter Try.func80, Try.ntmps80
    go_wp2
    go_ret2
    exact ⟨by first | rfl | (simp; done) | (simp [*]; done), by repeat (first | exact Drawn0.refl _ | apply Drawn0.step)⟩
  · rw [if_neg c2] at H
    have c2b0 : decide (a0 ≤ 1) = false := decide_eq_false c2
    clear c2
    replace H := Option.bind_eq_some_iff.mp H
    obtain ⟨t177, A30, H⟩ := H
    replace H : (if 0 ≤ (wrap64 (t177 + 1)) then (some (shl .u64 1 (wrap64 (t177 + 1)), ((shl .u64 1 (wrap64 (t177 + 1))) != 0))) else (none)) = some (r1, r2) := H
    have A3 := Aside0.mk A30
    clear A30
    obtain ⟨ji4, hji4⟩ : ∃ j_ : Int, (wrap64 (t177 + 1)) = j_ := ⟨_, rfl⟩
    replace H : (if 0 ≤ (ji4) then (some (shl .u64 1 (ji4), ((shl .u64 1 (ji4)) != 0))) else (none)) = some (r1, r2) := by first | (rw [hji4] at H; exact H) | (simp only [hji4] at H ⊢; exact H)
    (try rw [hji4] at A3)
    have hji4w : (IntKind.i64.wrap (t177 + 1)) = ji4 := (i64_w _).trans hji4
    by_cases c5 : 0 ≤ (ji4)
    · rw [if_pos c5] at H
      have c5b0 := eq_true c5
      have c5b1 : decide (0 ≤ (ji4)) = true := decide_eq_true c5
      clear c5
      obtain ⟨ji6, hji6⟩ : ∃ j_ : Int, (shl .u64 1 (ji4)) = j_ := ⟨_, rfl⟩
      replace H : (some (ji6, ((ji6) != 0))) = some (r1, r2) := by first | (rw [hji6] at H; exact H) | (simp only [hji6] at H ⊢; exact H)
      (try rw [hji6] at A3)
      have hji6_ : (IntKind.u64.wrap (1 * 2 ^ min (ji4).toNat 64)) = ji6 := hji6
      have hji6z : (ji4) ≤ 64 → (IntKind.u64.wrap (1 * 2 ^ (ji4).toNat)) = ji6 := shl_small hji6
      have hji6u : (IntKind.u64.wrap (2 ^ min (ji4).toNat 64)) = ji6 := by have h_ := hji6_; rw [Int.one_mul] at h_; exact h_
      have hji6v : (ji4) ≤ 64 → (IntKind.u64.wrap (2 ^ (ji4).toNat)) = ji6 := fun hle_ => by have h_ := hji6z hle_; rw [Int.one_mul] at h_; exact h_
      simp only [Option.some.injEq, Prod.mk.injEq] at H
      obtain ⟨rfl, rfl⟩ := H
      go_enter Try.func80, Try.ntmps80
      go_wp2_with (first | ((with_reducible refine gate_callee (f := 78) rfl ?_); refine goesL_ (some 10) rfl rfl Try.func78 (by kernel_rfl) rfl #[.int .u64 (IntKind.u64.wrap (a0 - 1))] rfl (by (try simp only [List.map_toArray, List.map_cons, List.map_nil]); first | done | rfl | (simp only [List.length_drop, List.length_take]; rfl)) ?_; (with_reducible refine (croftlaw1_wide_78.calls k (IntKind.u64.wrap (a0 - 1)) t177 _ A3.out).mono ?_); rintro e w' ⟨rfl, ⟨nd, rfl⟩⟩; refine ⟨_, rfl, ?_⟩))
      go_ret2
      exact ⟨by first | rfl | (simp; done) | (simp only [← hji4, ← hji6] <;> (first | rfl | simp)) | (simp [*]; done), by repeat (first | exact Drawn0.refl _ | apply Drawn0.step)⟩
    · rw [if_neg c5] at H
      exact absurd H (by simp)

/-! ### croftlaw1_wide_30: function 30 -/
def croftlaw1_wide_30.j0 : Nat → Int → Int → Int → Bool → Option (Bool)
  | 0, _, _, _, _ => none
  | k + 1, x1, x5, x6, x35 => if x35 = true then (some false) else ((croftlaw1_wide_80.f k x5).bind fun bt185 => ((croftref1_Ceil.f k x6 x1).bind fun bt187 => (if bt185.1 = bt187.1 then (some (bt185.2 == bt187.2)) else (some false))))
def croftlaw1_wide_30.f (k : Nat) (a0 : Int) (a1 : Int) : Option (Bool) := (croftref1_Cut.f a0 a1).bind fun t178 => ((croftlaw1_wide_77.f a0).bind fun t179 => ((croftref1_IsPower.f k t178 a1).bind fun t180 => (if (t179 != t180) = true then (croftlaw1_wide_30.j0 k a1 a0 t178 true) else ((croftlaw1_wide_78.f k a0).bind fun t181 => ((croftref1_Log.f k t178 a1).bind fun t182 => (if t181 = t182 then ((croftlaw1_wide_79.f a0).bind fun t183 => ((croftref1_Count.f k t178).bind fun t184 => (croftlaw1_wide_30.j0 k a1 a0 t178 (t183 != t184)))) else (croftlaw1_wide_30.j0 k a1 a0 t178 true)))))))
theorem croftlaw1_wide_30.mono_l : ∀ k, (∀ y0 y1 y2 y3, LeO (croftlaw1_wide_30.j0 k y0 y1 y2 y3) (croftlaw1_wide_30.j0 (k + 1) y0 y1 y2 y3))
  | 0 => fun _ _ _ _ r h => by simp [croftlaw1_wide_30.j0] at h
  | k + 1 => by
    have ih0 := croftlaw1_wide_30.mono_l k
    · intro y0 y1 y2 y3
      unfold croftlaw1_wide_30.j0
      repeat' first
      | (with_reducible exact ih0 _ _ _ _)
      | (with_reducible exact croftlaw1_wide_78.mono _ _)
      | (with_reducible exact croftlaw1_wide_80.mono _ _)
      | (with_reducible exact croftref1_Ceil.mono _ _ _)
      | (with_reducible exact croftref1_Count.mono _ _)
      | (with_reducible exact croftref1_IsPower.mono _ _ _)
      | (with_reducible exact croftref1_Log.mono _ _ _)
      | (with_reducible exact LeO.refl _)
      | (with_reducible exact LeO.none _)
      | (with_reducible refine LeO.ite ?_ ?_)
      | (with_reducible refine LeO.bind ?_ (fun _ => ?_))
      | exact ih0 _ _ _ _
      | exact croftlaw1_wide_78.mono _ _
      | exact croftlaw1_wide_80.mono _ _
      | exact croftref1_Ceil.mono _ _ _
      | exact croftref1_Count.mono _ _
      | exact croftref1_IsPower.mono _ _ _
      | exact croftref1_Log.mono _ _ _
      | exact LeO.none _
      | refine LeO.ite ?_ ?_
      | refine LeO.bind ?_ (fun _ => ?_)
theorem croftlaw1_wide_30.mono : ∀ a0 a1 k, LeO (croftlaw1_wide_30.f k a0 a1) (croftlaw1_wide_30.f (k + 1) a0 a1) := by
  intro a0 a1 k
  have ih0 := croftlaw1_wide_30.mono_l k
  unfold croftlaw1_wide_30.f
  repeat' first
      | (with_reducible exact ih0 _ _ _ _)
      | (with_reducible exact croftlaw1_wide_78.mono _ _)
      | (with_reducible exact croftlaw1_wide_80.mono _ _)
      | (with_reducible exact croftref1_Ceil.mono _ _ _)
      | (with_reducible exact croftref1_Count.mono _ _)
      | (with_reducible exact croftref1_IsPower.mono _ _ _)
      | (with_reducible exact croftref1_Log.mono _ _ _)
      | (with_reducible exact LeO.refl _)
      | (with_reducible exact LeO.none _)
      | (with_reducible refine LeO.ite ?_ ?_)
      | (with_reducible refine LeO.bind ?_ (fun _ => ?_))
      | exact ih0 _ _ _ _
      | exact croftlaw1_wide_78.mono _ _
      | exact croftlaw1_wide_80.mono _ _
      | exact croftref1_Ceil.mono _ _ _
      | exact croftref1_Count.mono _ _
      | exact croftref1_IsPower.mono _ _ _
      | exact croftref1_Log.mono _ _ _
      | exact LeO.none _
      | refine LeO.ite ?_ ?_
      | refine LeO.bind ?_ (fun _ => ?_)
set_option maxHeartbeats 8000000 in
set_option maxRecDepth 100000 in
theorem croftlaw1_wide_30.calls (k : Nat) (a0 : Int) (a1 : Int) (r : Bool) (w : World) (h : croftlaw1_wide_30.f k a0 a1 = some r) :
    Calls Try.prog 30 #[.int .u64 a0, .int .i64 a1] w fun e w' => e = .returned (.bool r) ∧ Drawn0 w w' := by
  have H : ((croftref1_Cut.f a0 a1).bind fun t178 => ((croftlaw1_wide_77.f a0).bind fun t179 => ((croftref1_IsPower.f k t178 a1).bind fun t180 => (if (t179 != t180) = true then (croftlaw1_wide_30.j0 k a1 a0 t178 true) else ((croftlaw1_wide_78.f k a0).bind fun t181 => ((croftref1_Log.f k t178 a1).bind fun t182 => (if t181 = t182 then ((croftlaw1_wide_79.f a0).bind fun t183 => ((croftref1_Count.f k t178).bind fun t184 => (croftlaw1_wide_30.j0 k a1 a0 t178 (t183 != t184)))) else (croftlaw1_wide_30.j0 k a1 a0 t178 true)))))))) = some r := h
  clear h
  replace H := Option.bind_eq_some_iff.mp H
  obtain ⟨t178, A30, H⟩ := H
  replace H : ((croftlaw1_wide_77.f a0).bind fun t179 => ((croftref1_IsPower.f k t178 a1).bind fun t180 => (if (t179 != t180) = true then (croftlaw1_wide_30.j0 k a1 a0 t178 true) else ((croftlaw1_wide_78.f k a0).bind fun t181 => ((croftref1_Log.f k t178 a1).bind fun t182 => (if t181 = t182 then ((croftlaw1_wide_79.f a0).bind fun t183 => ((croftref1_Count.f k t178).bind fun t184 => (croftlaw1_wide_30.j0 k a1 a0 t178 (t183 != t184)))) else (croftlaw1_wide_30.j0 k a1 a0 t178 true))))))) = some r := H
  have A3 := Aside0.mk A30
  clear A30
  have HC4 := Aside0.mk H
  clear H
  go_enter Try.func30, Try.ntmps30
  go_upto_region 3 with (first | ((with_reducible refine gate_callee (f := 52) rfl ?_); refine goesL_ (some 14) rfl rfl Try.func52 (by kernel_rfl) rfl #[.int .u64 a0, .int .i64 a1] rfl (by (try simp only [List.map_toArray, List.map_cons, List.map_nil]); first | done | rfl | (simp only [List.length_drop, List.length_take]; rfl)) ?_; (with_reducible refine (croftref1_Cut.calls a0 a1 t178 _ A3.out).mono ?_); rintro e w' ⟨rfl, ⟨nd, rfl⟩⟩; refine ⟨_, rfl, ?_⟩))
  (try simp only [Act.put, List.setIfInBounds_toArray, List.set_cons_zero, List.set_cons_succ])
  go_cut [35] (fun v35 wc => ∃ (kq : Nat) (x35_3 : Bool), v35 = .bool x35_3 ∧ Aside0 (croftlaw1_wide_30.j0 kq a1 a0 t178 x35_3 = some r) ∧ Aside0 (kq ≤ k) ∧ Drawn0 w wc)
  case first =>
    have H := HC4.out
    clear HC4
    replace H := Option.bind_eq_some_iff.mp H
    obtain ⟨t179, A50, H⟩ := H
    replace H : ((croftref1_IsPower.f k t178 a1).bind fun t180 => (if (t179 != t180) = true then (croftlaw1_wide_30.j0 k a1 a0 t178 true) else ((croftlaw1_wide_78.f k a0).bind fun t181 => ((croftref1_Log.f k t178 a1).bind fun t182 => (if t181 = t182 then ((croftlaw1_wide_79.f a0).bind fun t183 => ((croftref1_Count.f k t178).bind fun t184 => (croftlaw1_wide_30.j0 k a1 a0 t178 (t183 != t184)))) else (croftlaw1_wide_30.j0 k a1 a0 t178 true)))))) = some r := H
    have A5 := Aside0.mk A50
    clear A50
    replace H := Option.bind_eq_some_iff.mp H
    obtain ⟨t180, A60, H⟩ := H
    replace H : (if (t179 != t180) = true then (croftlaw1_wide_30.j0 k a1 a0 t178 true) else ((croftlaw1_wide_78.f k a0).bind fun t181 => ((croftref1_Log.f k t178 a1).bind fun t182 => (if t181 = t182 then ((croftlaw1_wide_79.f a0).bind fun t183 => ((croftref1_Count.f k t178).bind fun t184 => (croftlaw1_wide_30.j0 k a1 a0 t178 (t183 != t184)))) else (croftlaw1_wide_30.j0 k a1 a0 t178 true))))) = some r := H
    have A6 := Aside0.mk A60
    clear A60
    by_cases c7 : (t179 != t180) = true
    · rw [if_pos c7] at H
      have c7b0 : (t179 != t180) = true := c7
      (try (have c7b1 : decide (t179 = t180) = false := by simpa using c7))
      (try (have c7b2 : (t179 == t180) = false := by simpa using c7))
      (try (have c7b3 : ¬ (t179 = t180) := by simpa using c7))
      clear c7
      (first | rw [c7b0] | (simp only [i64_w, i32_w]; rw [c7b0]) | skip)
      have H' := Aside0.mk H
      clear H
      go_wp2_with (first | ((with_reducible refine gate_callee (f := 77) rfl ?_); refine goesL_ (some 16) rfl rfl Try.func77 (by kernel_rfl) rfl #[.int .u64 a0] rfl (by (try simp only [List.map_toArray, List.map_cons, List.map_nil]); first | done | rfl | (simp only [List.length_drop, List.length_take]; rfl)) ?_; (with_reducible refine (croftlaw1_wide_77.calls a0 t179 _ A5.out).mono ?_); rintro e w' ⟨rfl, ⟨nd, rfl⟩⟩; refine ⟨_, rfl, ?_⟩) | ((with_reducible refine gate_callee (f := 68) rfl ?_); refine goesL_ (some 19) rfl rfl Try.func68 (by kernel_rfl) rfl #[.int .u64 t178, .int .i64 a1] rfl (by (try simp only [List.map_toArray, List.map_cons, List.map_nil]); first | done | rfl | (simp only [List.length_drop, List.length_take]; rfl)) ?_; (with_reducible refine (croftref1_IsPower.calls k t178 a1 t180 _ A6.out).mono ?_); rintro e w' ⟨rfl, ⟨nd, rfl⟩⟩; refine ⟨_, rfl, ?_⟩))
      go_meet
      case rel => exact ⟨_, (true), (by first | rfl | (simp; done) | (simp [*]; done)), H', ⟨by first | omega | exact Nat.le_refl _⟩, by repeat (first | exact Drawn0.refl _ | apply Drawn0.step)⟩
    · rw [if_neg c7] at H
      have c7b0 : (t179 != t180) = false := by simpa using c7
      (try (have c7b1 : decide (t179 = t180) = true := by simpa using c7))
      (try (have c7b2 : (t179 == t180) = true := by simpa using c7))
      clear c7
      (first | rw [c7b0] | (simp only [i64_w, i32_w]; rw [c7b0]) | skip)
      replace H := Option.bind_eq_some_iff.mp H
      obtain ⟨t181, A80, H⟩ := H
      replace H : ((croftref1_Log.f k t178 a1).bind fun t182 => (if t181 = t182 then ((croftlaw1_wide_79.f a0).bind fun t183 => ((croftref1_Count.f k t178).bind fun t184 => (croftlaw1_wide_30.j0 k a1 a0 t178 (t183 != t184)))) else (croftlaw1_wide_30.j0 k a1 a0 t178 true))) = some r := H
      have A8 := Aside0.mk A80
      clear A80
      replace H := Option.bind_eq_some_iff.mp H
      obtain ⟨t182, A90, H⟩ := H
      replace H : (if t181 = t182 then ((croftlaw1_wide_79.f a0).bind fun t183 => ((croftref1_Count.f k t178).bind fun t184 => (croftlaw1_wide_30.j0 k a1 a0 t178 (t183 != t184)))) else (croftlaw1_wide_30.j0 k a1 a0 t178 true)) = some r := H
      have A9 := Aside0.mk A90
      clear A90
      by_cases c10 : t181 = t182
      · rw [if_pos c10] at H
        have c10b0 : (t181 == t182) = true := beq_iff_eq.mpr c10
        have c10b1 : (t181 != t182) = false := bne_eq_false_iff_eq.mpr c10
        clear c10
        replace H := Option.bind_eq_some_iff.mp H
        obtain ⟨t183, A110, H⟩ := H
        replace H : ((croftref1_Count.f k t178).bind fun t184 => (croftlaw1_wide_30.j0 k a1 a0 t178 (t183 != t184))) = some r := H
        have A11 := Aside0.mk A110
        clear A110
        replace H := Option.bind_eq_some_iff.mp H
        obtain ⟨t184, A120, H⟩ := H
        replace H : (croftlaw1_wide_30.j0 k a1 a0 t178 (t183 != t184)) = some r := H
        have A12 := Aside0.mk A120
        clear A120
        have H' := Aside0.mk H
        clear H
        go_wp2_with (first | ((with_reducible refine gate_callee (f := 77) rfl ?_); refine goesL_ (some 16) rfl rfl Try.func77 (by kernel_rfl) rfl #[.int .u64 a0] rfl (by (try simp only [List.map_toArray, List.map_cons, List.map_nil]); first | done | rfl | (simp only [List.length_drop, List.length_take]; rfl)) ?_; (with_reducible refine (croftlaw1_wide_77.calls a0 t179 _ A5.out).mono ?_); rintro e w' ⟨rfl, ⟨nd, rfl⟩⟩; refine ⟨_, rfl, ?_⟩) | ((with_reducible refine gate_callee (f := 68) rfl ?_); refine goesL_ (some 19) rfl rfl Try.func68 (by kernel_rfl) rfl #[.int .u64 t178, .int .i64 a1] rfl (by (try simp only [List.map_toArray, List.map_cons, List.map_nil]); first | done | rfl | (simp only [List.length_drop, List.length_take]; rfl)) ?_; (with_reducible refine (croftref1_IsPower.calls k t178 a1 t180 _ A6.out).mono ?_); rintro e w' ⟨rfl, ⟨nd, rfl⟩⟩; refine ⟨_, rfl, ?_⟩) | (go_at_call 78; (with_reducible refine (croftlaw1_wide_78.calls k a0 t181 _ A8.out).mono ?_); rintro e w' ⟨rfl, ⟨nd, rfl⟩⟩) | (go_at_call 69; (with_reducible refine (croftref1_Log.calls k t178 a1 t182 _ A9.out).mono ?_); rintro e w' ⟨rfl, ⟨nd, rfl⟩⟩) | (go_at_call 79; (with_reducible refine (croftlaw1_wide_79.calls a0 t183 _ A11.out).mono ?_); rintro e w' ⟨rfl, ⟨nd, rfl⟩⟩) | (go_at_call 70; (with_reducible refine (croftref1_Count.calls k t178 t184 _ A12.out).mono ?_); rintro e w' ⟨rfl, ⟨nd, rfl⟩⟩))
        go_meet
        case rel => exact ⟨_, ((t183 != t184)), (by first | rfl | (simp; done) | (simp [*]; done)), H', ⟨by first | omega | exact Nat.le_refl _⟩, by repeat (first | exact Drawn0.refl _ | apply Drawn0.step)⟩
      · rw [if_neg c10] at H
        have c10b0 : (t181 == t182) = false := beq_eq_false_iff_ne.mpr c10
        have c10b1 : (t181 != t182) = true := bne_iff_ne.mpr c10
        have H' := Aside0.mk H
        clear H
        go_wp2_with (first | ((with_reducible refine gate_callee (f := 77) rfl ?_); refine goesL_ (some 16) rfl rfl Try.func77 (by kernel_rfl) rfl #[.int .u64 a0] rfl (by (try simp only [List.map_toArray, List.map_cons, List.map_nil]); first | done | rfl | (simp only [List.length_drop, List.length_take]; rfl)) ?_; (with_reducible refine (croftlaw1_wide_77.calls a0 t179 _ A5.out).mono ?_); rintro e w' ⟨rfl, ⟨nd, rfl⟩⟩; refine ⟨_, rfl, ?_⟩) | ((with_reducible refine gate_callee (f := 68) rfl ?_); refine goesL_ (some 19) rfl rfl Try.func68 (by kernel_rfl) rfl #[.int .u64 t178, .int .i64 a1] rfl (by (try simp only [List.map_toArray, List.map_cons, List.map_nil]); first | done | rfl | (simp only [List.length_drop, List.length_take]; rfl)) ?_; (with_reducible refine (croftref1_IsPower.calls k t178 a1 t180 _ A6.out).mono ?_); rintro e w' ⟨rfl, ⟨nd, rfl⟩⟩; refine ⟨_, rfl, ?_⟩) | (go_at_call 78; (with_reducible refine (croftlaw1_wide_78.calls k a0 t181 _ A8.out).mono ?_); rintro e w' ⟨rfl, ⟨nd, rfl⟩⟩) | (go_at_call 69; (with_reducible refine (croftref1_Log.calls k t178 a1 t182 _ A9.out).mono ?_); rintro e w' ⟨rfl, ⟨nd, rfl⟩⟩))
        go_meet
        case rel => exact ⟨_, (true), (by first | rfl | (simp; done) | (simp [*]; done)), H', ⟨by first | omega | exact Nat.le_refl _⟩, by repeat (first | exact Drawn0.refl _ | apply Drawn0.step)⟩
  case rest =>
    clear HC4
    try clear c1
    try clear p2
    try clear c3
    try clear c5
    try clear c6
    try clear c7
    try clear c7b0
    try clear c7b1
    try clear c7b2
    try clear c10
    try clear c10b0
    try clear c10b1
    obtain ⟨kq, x35_3, rfl, HA, HJ3, ⟨mc3, rfl⟩⟩ := hcut
    cases kq with
    | zero => exact absurd HA.out (by simp [croftlaw1_wide_30.j0])
    | succ kj3 =>
      have H := HA.out
      clear HA
      simp only [croftlaw1_wide_30.j0] at H
      by_cases c13 : x35_3 = true
      · subst c13
        have H1 : (some false) = some r := by rw [if_pos rfl] at H; exact H
        clear H
        have H := H1
        clear H1
        obtain rfl := Option.some.inj H
        go_wp2
        go_ret
        exact ⟨by first | rfl | (simp; done) | (simp [*]; done), by repeat (first | exact Drawn0.refl _ | apply Drawn0.step)⟩
      · replace c13 := Bool.eq_false_iff.mpr c13
        subst c13
        have H1 : ((croftlaw1_wide_80.f kj3 a0).bind fun bt185 => ((croftref1_Ceil.f kj3 t178 a1).bind fun bt187 => (if bt185.1 = bt187.1 then (some (bt185.2 == bt187.2)) else (some false)))) = some r := by rw [if_neg (show ¬ (false = true) by decide)] at H; exact H
        clear H
        have H := H1
        clear H1
        replace H := Option.bind_eq_some_iff.mp H
        obtain ⟨⟨t185, t186⟩, A140, H⟩ := H
        replace H : ((croftref1_Ceil.f kj3 t178 a1).bind fun bt187 => (if t185 = bt187.1 then (some (t186 == bt187.2)) else (some false))) = some r := H
        have A14 := Aside0.mk A140
        clear A140
        replace H := Option.bind_eq_some_iff.mp H
        obtain ⟨⟨t187, t188⟩, A150, H⟩ := H
        replace H : (if t185 = t187 then (some (t186 == t188)) else (some false)) = some r := H
        have A15 := Aside0.mk A150
        clear A150
        by_cases c16 : t185 = t187
        · rw [if_pos c16] at H
          have c16b0 : (t185 == t187) = true := beq_iff_eq.mpr c16
          have c16b1 : (t185 != t187) = false := bne_eq_false_iff_eq.mpr c16
          clear c16
          obtain rfl := Option.some.inj H
          go_wp2_with (first | ((with_reducible refine gate_callee (f := 80) rfl ?_); refine goesL_ (some 38) rfl rfl Try.func80 (by kernel_rfl) rfl #[.int .u64 a0] rfl (by (try simp only [List.map_toArray, List.map_cons, List.map_nil]); first | done | rfl | (simp only [List.length_drop, List.length_take]; rfl)) ?_; (with_reducible refine (croftlaw1_wide_80.calls kj3 a0 t185 t186 _ A14.out).mono ?_); rintro e w' ⟨rfl, ⟨nd, rfl⟩⟩; refine ⟨_, rfl, ?_⟩) | ((with_reducible refine gate_callee (f := 71) rfl ?_); refine goesL_ (some 44) rfl rfl Try.func71 (by kernel_rfl) rfl #[.int .u64 t178, .int .i64 a1] rfl (by (try simp only [List.map_toArray, List.map_cons, List.map_nil]); first | done | rfl | (simp only [List.length_drop, List.length_take]; rfl)) ?_; (with_reducible refine (croftref1_Ceil.calls kj3 t178 a1 t187 t188 _ A15.out).mono ?_); rintro e w' ⟨rfl, ⟨nd, rfl⟩⟩; refine ⟨_, rfl, ?_⟩))
          go_ret
          exact ⟨by first | rfl | (simp; done) | (simp [*]; done), by repeat (first | exact Drawn0.refl _ | apply Drawn0.step)⟩
        · rw [if_neg c16] at H
          have c16b0 : (t185 == t187) = false := beq_eq_false_iff_ne.mpr c16
          have c16b1 : (t185 != t187) = true := bne_iff_ne.mpr c16
          obtain rfl := Option.some.inj H
          go_wp2_with (first | ((with_reducible refine gate_callee (f := 80) rfl ?_); refine goesL_ (some 38) rfl rfl Try.func80 (by kernel_rfl) rfl #[.int .u64 a0] rfl (by (try simp only [List.map_toArray, List.map_cons, List.map_nil]); first | done | rfl | (simp only [List.length_drop, List.length_take]; rfl)) ?_; (with_reducible refine (croftlaw1_wide_80.calls kj3 a0 t185 t186 _ A14.out).mono ?_); rintro e w' ⟨rfl, ⟨nd, rfl⟩⟩; refine ⟨_, rfl, ?_⟩) | ((with_reducible refine gate_callee (f := 71) rfl ?_); refine goesL_ (some 44) rfl rfl Try.func71 (by kernel_rfl) rfl #[.int .u64 t178, .int .i64 a1] rfl (by (try simp only [List.map_toArray, List.map_cons, List.map_nil]); first | done | rfl | (simp only [List.length_drop, List.length_take]; rfl)) ?_; (with_reducible refine (croftref1_Ceil.calls kj3 t178 a1 t187 t188 _ A15.out).mono ?_); rintro e w' ⟨rfl, ⟨nd, rfl⟩⟩; refine ⟨_, rfl, ?_⟩))
          go_ret
          exact ⟨by first | rfl | (simp; done) | (simp [*]; done), by repeat (first | exact Drawn0.refl _ | apply Drawn0.step)⟩

/-! ### croftlaw1_BitsPowers: function 6 -/
def croftlaw1_BitsPowers.f (k : Nat) (a0 : Int) : Option (Bool) := (croftlaw1_powers_uint8.f k a0 8).bind fun t189 => (if t189 = true then ((croftlaw1_powers_uint16.f k a0 16).bind fun t190 => (if t190 = true then ((croftlaw1_powers_uint32.f k a0 32).bind fun t191 => (if t191 = true then ((croftlaw1_powers_uint64.f k a0 64).bind fun t192 => (if t192 = true then ((croftlaw1_small_29.f k a0 8).bind fun t193 => (if t193 = true then ((croftlaw1_wide_30.f k a0 64).bind fun t194 => (some t194)) else (some false))) else (some false))) else (some false))) else (some false))) else (some false))
theorem croftlaw1_BitsPowers.mono : ∀ a0 k, LeO (croftlaw1_BitsPowers.f k a0) (croftlaw1_BitsPowers.f (k + 1) a0) := by
  intro a0 k
  unfold croftlaw1_BitsPowers.f
  repeat' first
      | (with_reducible exact croftlaw1_powers_uint16.mono _ _ _)
      | (with_reducible exact croftlaw1_powers_uint32.mono _ _ _)
      | (with_reducible exact croftlaw1_powers_uint64.mono _ _ _)
      | (with_reducible exact croftlaw1_powers_uint8.mono _ _ _)
      | (with_reducible exact croftlaw1_small_29.mono _ _ _)
      | (with_reducible exact croftlaw1_wide_30.mono _ _ _)
      | (with_reducible exact LeO.refl _)
      | (with_reducible exact LeO.none _)
      | (with_reducible refine LeO.ite ?_ ?_)
      | (with_reducible refine LeO.bind ?_ (fun _ => ?_))
      | exact croftlaw1_powers_uint16.mono _ _ _
      | exact croftlaw1_powers_uint32.mono _ _ _
      | exact croftlaw1_powers_uint64.mono _ _ _
      | exact croftlaw1_powers_uint8.mono _ _ _
      | exact croftlaw1_small_29.mono _ _ _
      | exact croftlaw1_wide_30.mono _ _ _
      | exact LeO.none _
      | refine LeO.ite ?_ ?_
      | refine LeO.bind ?_ (fun _ => ?_)
set_option maxHeartbeats 8000000 in
set_option maxRecDepth 100000 in
theorem croftlaw1_BitsPowers.calls (k : Nat) (a0 : Int) (r : Bool) (w : World) (h : croftlaw1_BitsPowers.f k a0 = some r) :
    Calls Try.prog 6 #[.int .u64 a0] w fun e w' => e = .returned (.bool r) ∧ Drawn0 w w' := by
  have H : ((croftlaw1_powers_uint8.f k a0 8).bind fun t189 => (if t189 = true then ((croftlaw1_powers_uint16.f k a0 16).bind fun t190 => (if t190 = true then ((croftlaw1_powers_uint32.f k a0 32).bind fun t191 => (if t191 = true then ((croftlaw1_powers_uint64.f k a0 64).bind fun t192 => (if t192 = true then ((croftlaw1_small_29.f k a0 8).bind fun t193 => (if t193 = true then ((croftlaw1_wide_30.f k a0 64).bind fun t194 => (some t194)) else (some false))) else (some false))) else (some false))) else (some false))) else (some false))) = some r := h
  clear h
  replace H := Option.bind_eq_some_iff.mp H
  obtain ⟨t189, A20, H⟩ := H
  replace H : (if t189 = true then ((croftlaw1_powers_uint16.f k a0 16).bind fun t190 => (if t190 = true then ((croftlaw1_powers_uint32.f k a0 32).bind fun t191 => (if t191 = true then ((croftlaw1_powers_uint64.f k a0 64).bind fun t192 => (if t192 = true then ((croftlaw1_small_29.f k a0 8).bind fun t193 => (if t193 = true then ((croftlaw1_wide_30.f k a0 64).bind fun t194 => (some t194)) else (some false))) else (some false))) else (some false))) else (some false))) else (some false)) = some r := H
  have A2 := Aside0.mk A20
  clear A20
  by_cases c3 : t189 = true
  · subst c3
    have H1 : ((croftlaw1_powers_uint16.f k a0 16).bind fun t190 => (if t190 = true then ((croftlaw1_powers_uint32.f k a0 32).bind fun t191 => (if t191 = true then ((croftlaw1_powers_uint64.f k a0 64).bind fun t192 => (if t192 = true then ((croftlaw1_small_29.f k a0 8).bind fun t193 => (if t193 = true then ((croftlaw1_wide_30.f k a0 64).bind fun t194 => (some t194)) else (some false))) else (some false))) else (some false))) else (some false))) = some r := by rw [if_pos rfl] at H; exact H
    clear H
    have H := H1
    clear H1
    replace H := Option.bind_eq_some_iff.mp H
    obtain ⟨t190, A40, H⟩ := H
    replace H : (if t190 = true then ((croftlaw1_powers_uint32.f k a0 32).bind fun t191 => (if t191 = true then ((croftlaw1_powers_uint64.f k a0 64).bind fun t192 => (if t192 = true then ((croftlaw1_small_29.f k a0 8).bind fun t193 => (if t193 = true then ((croftlaw1_wide_30.f k a0 64).bind fun t194 => (some t194)) else (some false))) else (some false))) else (some false))) else (some false)) = some r := H
    have A4 := Aside0.mk A40
    clear A40
    by_cases c5 : t190 = true
    · subst c5
      have H1 : ((croftlaw1_powers_uint32.f k a0 32).bind fun t191 => (if t191 = true then ((croftlaw1_powers_uint64.f k a0 64).bind fun t192 => (if t192 = true then ((croftlaw1_small_29.f k a0 8).bind fun t193 => (if t193 = true then ((croftlaw1_wide_30.f k a0 64).bind fun t194 => (some t194)) else (some false))) else (some false))) else (some false))) = some r := by rw [if_pos rfl] at H; exact H
      clear H
      have H := H1
      clear H1
      replace H := Option.bind_eq_some_iff.mp H
      obtain ⟨t191, A60, H⟩ := H
      replace H : (if t191 = true then ((croftlaw1_powers_uint64.f k a0 64).bind fun t192 => (if t192 = true then ((croftlaw1_small_29.f k a0 8).bind fun t193 => (if t193 = true then ((croftlaw1_wide_30.f k a0 64).bind fun t194 => (some t194)) else (some false))) else (some false))) else (some false)) = some r := H
      have A6 := Aside0.mk A60
      clear A60
      by_cases c7 : t191 = true
      · subst c7
        have H1 : ((croftlaw1_powers_uint64.f k a0 64).bind fun t192 => (if t192 = true then ((croftlaw1_small_29.f k a0 8).bind fun t193 => (if t193 = true then ((croftlaw1_wide_30.f k a0 64).bind fun t194 => (some t194)) else (some false))) else (some false))) = some r := by rw [if_pos rfl] at H; exact H
        clear H
        have H := H1
        clear H1
        replace H := Option.bind_eq_some_iff.mp H
        obtain ⟨t192, A80, H⟩ := H
        replace H : (if t192 = true then ((croftlaw1_small_29.f k a0 8).bind fun t193 => (if t193 = true then ((croftlaw1_wide_30.f k a0 64).bind fun t194 => (some t194)) else (some false))) else (some false)) = some r := H
        have A8 := Aside0.mk A80
        clear A80
        by_cases c9 : t192 = true
        · subst c9
          have H1 : ((croftlaw1_small_29.f k a0 8).bind fun t193 => (if t193 = true then ((croftlaw1_wide_30.f k a0 64).bind fun t194 => (some t194)) else (some false))) = some r := by rw [if_pos rfl] at H; exact H
          clear H
          have H := H1
          clear H1
          replace H := Option.bind_eq_some_iff.mp H
          obtain ⟨t193, A100, H⟩ := H
          replace H : (if t193 = true then ((croftlaw1_wide_30.f k a0 64).bind fun t194 => (some t194)) else (some false)) = some r := H
          have A10 := Aside0.mk A100
          clear A100
          by_cases c11 : t193 = true
          · subst c11
            have H1 : ((croftlaw1_wide_30.f k a0 64).bind fun t194 => (some t194)) = some r := by rw [if_pos rfl] at H; exact H
            clear H
            have H := H1
            clear H1
            replace H := Option.bind_eq_some_iff.mp H
            obtain ⟨t194, A120, H⟩ := H
            replace H : (some t194) = some r := H
            have A12 := Aside0.mk A120
            clear A120
            obtain rfl := Option.some.inj H
            go_enter Try.func6, Try.ntmps6
            go_wp2_with (first | ((with_reducible refine gate_callee (f := 25) rfl ?_); refine goesL_ (some 4) rfl rfl Try.func25 (by kernel_rfl) rfl #[.int .u64 a0, .int .i64 8] rfl (by (try simp only [List.map_toArray, List.map_cons, List.map_nil]); first | done | rfl | (simp only [List.length_drop, List.length_take]; rfl)) ?_; (with_reducible refine (croftlaw1_powers_uint8.calls k a0 8 true _ A2.out).mono ?_); rintro e w' ⟨rfl, ⟨nd, rfl⟩⟩; refine ⟨_, rfl, ?_⟩) | (go_at_call 26; (with_reducible refine (croftlaw1_powers_uint16.calls k a0 16 true _ A4.out).mono ?_); rintro e w' ⟨rfl, ⟨nd, rfl⟩⟩) | (go_at_call 27; (with_reducible refine (croftlaw1_powers_uint32.calls k a0 32 true _ A6.out).mono ?_); rintro e w' ⟨rfl, ⟨nd, rfl⟩⟩) | (go_at_call 28; (with_reducible refine (croftlaw1_powers_uint64.calls k a0 64 true _ A8.out).mono ?_); rintro e w' ⟨rfl, ⟨nd, rfl⟩⟩) | (go_at_call 29; (with_reducible refine (croftlaw1_small_29.calls k a0 8 true _ A10.out).mono ?_); rintro e w' ⟨rfl, ⟨nd, rfl⟩⟩) | (go_at_call 30; (with_reducible refine (croftlaw1_wide_30.calls k a0 64 t194 _ A12.out).mono ?_); rintro e w' ⟨rfl, ⟨nd, rfl⟩⟩))
            go_ret
            exact ⟨by first | rfl | (simp; done) | (simp [*]; done), by repeat (first | exact Drawn0.refl _ | apply Drawn0.step)⟩
          · replace c11 := Bool.eq_false_iff.mpr c11
            subst c11
            have H1 : (some false) = some r := by rw [if_neg (show ¬ (false = true) by decide)] at H; exact H
            clear H
            have H := H1
            clear H1
            obtain rfl := Option.some.inj H
            go_enter Try.func6, Try.ntmps6
            go_wp2_with (first | ((with_reducible refine gate_callee (f := 25) rfl ?_); refine goesL_ (some 4) rfl rfl Try.func25 (by kernel_rfl) rfl #[.int .u64 a0, .int .i64 8] rfl (by (try simp only [List.map_toArray, List.map_cons, List.map_nil]); first | done | rfl | (simp only [List.length_drop, List.length_take]; rfl)) ?_; (with_reducible refine (croftlaw1_powers_uint8.calls k a0 8 true _ A2.out).mono ?_); rintro e w' ⟨rfl, ⟨nd, rfl⟩⟩; refine ⟨_, rfl, ?_⟩) | (go_at_call 26; (with_reducible refine (croftlaw1_powers_uint16.calls k a0 16 true _ A4.out).mono ?_); rintro e w' ⟨rfl, ⟨nd, rfl⟩⟩) | (go_at_call 27; (with_reducible refine (croftlaw1_powers_uint32.calls k a0 32 true _ A6.out).mono ?_); rintro e w' ⟨rfl, ⟨nd, rfl⟩⟩) | (go_at_call 28; (with_reducible refine (croftlaw1_powers_uint64.calls k a0 64 true _ A8.out).mono ?_); rintro e w' ⟨rfl, ⟨nd, rfl⟩⟩) | (go_at_call 29; (with_reducible refine (croftlaw1_small_29.calls k a0 8 false _ A10.out).mono ?_); rintro e w' ⟨rfl, ⟨nd, rfl⟩⟩))
            go_ret
            exact ⟨by first | rfl | (simp; done) | (simp [*]; done), by repeat (first | exact Drawn0.refl _ | apply Drawn0.step)⟩
        · replace c9 := Bool.eq_false_iff.mpr c9
          subst c9
          have H1 : (some false) = some r := by rw [if_neg (show ¬ (false = true) by decide)] at H; exact H
          clear H
          have H := H1
          clear H1
          obtain rfl := Option.some.inj H
          go_enter Try.func6, Try.ntmps6
          go_wp2_with (first | ((with_reducible refine gate_callee (f := 25) rfl ?_); refine goesL_ (some 4) rfl rfl Try.func25 (by kernel_rfl) rfl #[.int .u64 a0, .int .i64 8] rfl (by (try simp only [List.map_toArray, List.map_cons, List.map_nil]); first | done | rfl | (simp only [List.length_drop, List.length_take]; rfl)) ?_; (with_reducible refine (croftlaw1_powers_uint8.calls k a0 8 true _ A2.out).mono ?_); rintro e w' ⟨rfl, ⟨nd, rfl⟩⟩; refine ⟨_, rfl, ?_⟩) | (go_at_call 26; (with_reducible refine (croftlaw1_powers_uint16.calls k a0 16 true _ A4.out).mono ?_); rintro e w' ⟨rfl, ⟨nd, rfl⟩⟩) | (go_at_call 27; (with_reducible refine (croftlaw1_powers_uint32.calls k a0 32 true _ A6.out).mono ?_); rintro e w' ⟨rfl, ⟨nd, rfl⟩⟩) | (go_at_call 28; (with_reducible refine (croftlaw1_powers_uint64.calls k a0 64 false _ A8.out).mono ?_); rintro e w' ⟨rfl, ⟨nd, rfl⟩⟩))
          go_ret
          exact ⟨by first | rfl | (simp; done) | (simp [*]; done), by repeat (first | exact Drawn0.refl _ | apply Drawn0.step)⟩
      · replace c7 := Bool.eq_false_iff.mpr c7
        subst c7
        have H1 : (some false) = some r := by rw [if_neg (show ¬ (false = true) by decide)] at H; exact H
        clear H
        have H := H1
        clear H1
        obtain rfl := Option.some.inj H
        go_enter Try.func6, Try.ntmps6
        go_wp2_with (first | ((with_reducible refine gate_callee (f := 25) rfl ?_); refine goesL_ (some 4) rfl rfl Try.func25 (by kernel_rfl) rfl #[.int .u64 a0, .int .i64 8] rfl (by (try simp only [List.map_toArray, List.map_cons, List.map_nil]); first | done | rfl | (simp only [List.length_drop, List.length_take]; rfl)) ?_; (with_reducible refine (croftlaw1_powers_uint8.calls k a0 8 true _ A2.out).mono ?_); rintro e w' ⟨rfl, ⟨nd, rfl⟩⟩; refine ⟨_, rfl, ?_⟩) | (go_at_call 26; (with_reducible refine (croftlaw1_powers_uint16.calls k a0 16 true _ A4.out).mono ?_); rintro e w' ⟨rfl, ⟨nd, rfl⟩⟩) | (go_at_call 27; (with_reducible refine (croftlaw1_powers_uint32.calls k a0 32 false _ A6.out).mono ?_); rintro e w' ⟨rfl, ⟨nd, rfl⟩⟩))
        go_ret
        exact ⟨by first | rfl | (simp; done) | (simp [*]; done), by repeat (first | exact Drawn0.refl _ | apply Drawn0.step)⟩
    · replace c5 := Bool.eq_false_iff.mpr c5
      subst c5
      have H1 : (some false) = some r := by rw [if_neg (show ¬ (false = true) by decide)] at H; exact H
      clear H
      have H := H1
      clear H1
      obtain rfl := Option.some.inj H
      go_enter Try.func6, Try.ntmps6
      go_wp2_with (first | ((with_reducible refine gate_callee (f := 25) rfl ?_); refine goesL_ (some 4) rfl rfl Try.func25 (by kernel_rfl) rfl #[.int .u64 a0, .int .i64 8] rfl (by (try simp only [List.map_toArray, List.map_cons, List.map_nil]); first | done | rfl | (simp only [List.length_drop, List.length_take]; rfl)) ?_; (with_reducible refine (croftlaw1_powers_uint8.calls k a0 8 true _ A2.out).mono ?_); rintro e w' ⟨rfl, ⟨nd, rfl⟩⟩; refine ⟨_, rfl, ?_⟩) | (go_at_call 26; (with_reducible refine (croftlaw1_powers_uint16.calls k a0 16 false _ A4.out).mono ?_); rintro e w' ⟨rfl, ⟨nd, rfl⟩⟩))
      go_ret
      exact ⟨by first | rfl | (simp; done) | (simp [*]; done), by repeat (first | exact Drawn0.refl _ | apply Drawn0.step)⟩
  · replace c3 := Bool.eq_false_iff.mpr c3
    subst c3
    have H1 : (some false) = some r := by rw [if_neg (show ¬ (false = true) by decide)] at H; exact H
    clear H
    have H := H1
    clear H1
    obtain rfl := Option.some.inj H
    go_enter Try.func6, Try.ntmps6
    go_wp2_with (first | ((with_reducible refine gate_callee (f := 25) rfl ?_); refine goesL_ (some 4) rfl rfl Try.func25 (by kernel_rfl) rfl #[.int .u64 a0, .int .i64 8] rfl (by (try simp only [List.map_toArray, List.map_cons, List.map_nil]); first | done | rfl | (simp only [List.length_drop, List.length_take]; rfl)) ?_; (with_reducible refine (croftlaw1_powers_uint8.calls k a0 8 false _ A2.out).mono ?_); rintro e w' ⟨rfl, ⟨nd, rfl⟩⟩; refine ⟨_, rfl, ?_⟩))
    go_ret
    exact ⟨by first | rfl | (simp; done) | (simp [*]; done), by repeat (first | exact Drawn0.refl _ | apply Drawn0.step)⟩

/-- THE ONE PURE STATEMENT of croftlaw1_BitsPowers: yours. -/
def croftlaw1_BitsPowers.Pure : Prop := ∀ (a0 : Int), (Lit.int .u64 a0).wf = true → ∃ k, croftlaw1_BitsPowers.f k a0 = some true
theorem croftlaw1_BitsPowers.walk (P : croftlaw1_BitsPowers.Pure) (a0 : Int) (w : World) (w0 : (Lit.int .u64 a0).wf = true) :
    Calls Try.prog 6 #[.int .u64 a0] w fun e w' => e = .returned (.bool true) ∧ Below w.heap.size w w' := by
  obtain ⟨k, h⟩ := P a0 w0
  refine (croftlaw1_BitsPowers.calls k a0 true w h).mono ?_
  rintro e w' ⟨rfl, hd⟩
  exact ⟨rfl, hd.below⟩

/-! ### bits_fit: function 63 -/
def bits_fit.f (a0 : Int) : Option (Int × Int) := some (mx 0 (mn a0 1048576), ((mx 0 (mn a0 1048576)) + 63) / 64)
set_option maxHeartbeats 8000000 in
set_option maxRecDepth 100000 in
theorem bits_fit.calls (a0 : Int) (r1 : Int) (r2 : Int) (w : World) (h : bits_fit.f a0 = some (r1, r2)) :
    Calls Try.prog 63 #[.int .i64 a0] w fun e w' => e = .returned (.tuple #[.int .i64 r1, .int .i64 r2]) ∧ Below w.heap.size w w' := by
  have HB := Aside0.mk (Below.refl w.heap.size w)
  have H : (some (mx 0 (mn a0 1048576), ((mx 0 (mn a0 1048576)) + 63) / 64)) = some (r1, r2) := h
  clear h
  obtain ⟨ji2, hji2⟩ : ∃ j_ : Int, (mn a0 1048576) = j_ := ⟨_, rfl⟩
  replace H : (some (mx 0 (ji2), ((mx 0 (ji2)) + 63) / 64)) = some (r1, r2) := by first | (rw [hji2] at H; exact H) | (simp only [hji2] at H ⊢; exact H)
  (try (have hji2h : ji2 ≤ 1048576 := by (rw [← hji2]; unfold mn; (repeat' split) <;> omega)))
  (try (have hji2g : ji2 ≤ 64 := by omega))
  have hji2_ : (if 1048576 < a0 then 1048576 else a0) = ji2 := hji2
  obtain ⟨ji3, hji3⟩ : ∃ j_ : Int, (mx 0 (ji2)) = j_ := ⟨_, rfl⟩
  replace H : (some (ji3, ((ji3) + 63) / 64)) = some (r1, r2) := by first | (rw [hji3] at H; exact H) | (simp only [hji3] at H ⊢; exact H)
  have hji3_ : (if 0 < (ji2) then (ji2) else 0) = ji3 := hji3
  simp only [Option.some.injEq, Prod.mk.injEq] at H
  obtain ⟨rfl, rfl⟩ := H
  go_enter Try.func63, Try.ntmps63
  go_wp2
  go_ret2
  exact ⟨by first | rfl | (simp [errW_none, errW_some] <;> rfl) | (simp only [← hji2, ← hji3]; first | rfl | (simp [errW_none, errW_some] <;> rfl)) | (simp [*, errW_none, errW_some] <;> rfl), by repeat (first | (with_reducible first | exact HB.out | apply below_alloc | apply pw_below_drewN | apply below_drew1) | exact HB.out)⟩

-- NOT PRINTED: function 64 (bits_Set_cut)

-- NOT PRINTED: function 17 (bits_Of)

-- NOT PRINTED: function 18 (bits_Set_Words)

/-- A state of type 75 at block g of W; what its slices lead to came in by w0. -/
def IsS75 (w0 W : World) (g : Nat) (f0 : Int) (f1 : List Int) : Prop := ∃ A1 c1, W.heap[g]? = some (.cells #[.int .i64 f0, .slice A1 f1.length c1] 75 (0, 0)) ∧ w0.heap.size ≤ g ∧ Kd.C (Kd.int .u64) w0 A1 f1.length f1
theorem IsS75.grown {w0 W : World} {g : Nat} {f0 : Int} {f1 : List Int} {W1 : World} {row : Option Nat} (h : IsS75 w0 W g f0 f1) (hw : W.grownBy W1 row) (hne : some g ≠ row) : IsS75 w0 W1 g f0 f1 := by
  obtain ⟨A1, c1, hb, hg, hr1⟩ := h
  exact ⟨A1, c1, blk_grown hb hw hne, hg, hr1⟩
theorem IsS75.own_neN {w0 W : World} {g : Nat} {f0 : Int} {f1 : List Int} {α : Type} {d : Kd α} {e : Nat} {base : Nat} {ok : Nat → Prop} {v : Value} {xs : List α} (h : IsS75 w0 W g f0 f1) (ho : Kd.N d e W base ok v xs) (ht : e ≠ 75) : some g ≠ v.ownBlock := by
  obtain ⟨A1, c1, hb, hg, hr1⟩ := h
  exact Kd.N_ne ho hb ht
theorem IsS75.fresh {w0 W : World} {g : Nat} {f0 : Int} {f1 : List Int} (h : IsS75 w0 W g f0 f1) : ∀ k, W.heap.size ≤ k → k ≠ g := by
  obtain ⟨A1, c1, hb, hg, hr1⟩ := h
  exact Kd.freshB hb
theorem IsS75.kept {w0 W : World} {g : Nat} {f0 : Int} {f1 : List Int} {W1 : World} {S : Nat → Prop} (h : IsS75 w0 W g f0 f1) (hk : Kept W W1 S) (hne : ¬ S g) : IsS75 w0 W1 g f0 f1 := by
  obtain ⟨A1, c1, hb, hg, hr1⟩ := h
  exact ⟨A1, c1, blk_kept hb hk hne, hg, hr1⟩
theorem IsS75.below {w0 W : World} {g : Nat} {f0 : Int} {f1 : List Int} {W1 : World} (h : IsS75 w0 W g f0 f1) (hw : Below W.heap.size W W1) : IsS75 w0 W1 g f0 f1 := h.grown (grown_of_below hw none) (by simp)
theorem IsS75.alloc {w0 W : World} {g : Nat} {f0 : Int} {f1 : List Int} (h : IsS75 w0 W g f0 f1) (o : Obj) : IsS75 w0 (W.alloc o) g f0 f1 := h.below (below_alloc (Below.refl _ _) o)
theorem IsS75.drewN {w0 W : World} {g : Nat} {f0 : Int} {f1 : List Int} (h : IsS75 w0 W g f0 f1) (m : Nat) : IsS75 w0 (W.drewN m) g f0 f1 := h
theorem IsS75.drew {w0 W : World} {g : Nat} {f0 : Int} {f1 : List Int} (h : IsS75 w0 W g f0 f1) : IsS75 w0 W.drew g f0 f1 := h
theorem IsS75.at_ {w0 W : World} {g : Nat} {f0 : Int} {f1 : List Int} {w' : World} {m : Nat} (hq : W.drewN m = w') (h : IsS75 w0 W g f0 f1) : IsS75 w0 w' g f0 f1 := by subst hq; exact IsS75.drewN h m
theorem IsS75.apart {w0 W : World} {g : Nat} {f0 : Int} {f1 : List Int} {α : Type} {d : Kd α} {e : Nat} {base : Nat} {ok : Nat → Prop} {v : Value} {xs : List α} (h : IsS75 w0 W g f0 f1) (ho : d.R e W base ok v xs) (ht : ∀ q, q ∈ e :: d.E → q ≠ 75) : d.R e W base (fun k => ok k ∧ k ≠ g) v xs := by
  obtain ⟨A1, c1, hb, hg, hr1⟩ := h
  exact Kd.R_types ho hb ht
theorem IsS75.own_ne {w0 W : World} {g : Nat} {f0 : Int} {f1 : List Int} {α : Type} {d : Kd α} {e : Nat} {base : Nat} {ok : Nat → Prop} {v : Value} {xs : List α} (h : IsS75 w0 W g f0 f1) (ho : d.R e W base ok v xs) (ht : e ≠ 75) : some g ≠ v.ownBlock := by
  obtain ⟨A1, c1, hb, hg, hr1⟩ := h
  exact Kd.R_ne ho hb ht
theorem IsS75.apartQ {w0 W : World} {g : Nat} {f0 : Int} {f1 : List Int} {α : Type} {d : Kd α} {e : Nat} {base : Nat} {ok : Nat → Prop} {v : Value} {xs : List α} (h : IsS75 w0 W g f0 f1) (ho : d.Q e W base ok v xs) (ht : ∀ q, q ∈ e :: d.E → q ≠ 75) : d.Q e W base (fun k => ok k ∧ k ≠ g) v xs := by
  obtain ⟨A1, c1, hb, hg, hr1⟩ := h
  exact Kd.Q_types ho hb ht
theorem IsS75.own_neQ {w0 W : World} {g : Nat} {f0 : Int} {f1 : List Int} {α : Type} {d : Kd α} {e : Nat} {base : Nat} {ok : Nat → Prop} {v : Value} {xs : List α} (h : IsS75 w0 W g f0 f1) (ho : d.Q e W base ok v xs) (ht : e ≠ 75) : some g ≠ v.ownBlock := by
  obtain ⟨A1, c1, hb, hg, hr1⟩ := h
  exact Kd.Q_ne ho hb ht
theorem IsS75.apartS {w0 W : World} {g : Nat} {f0 : Int} {f1 : List Int} {α : Type} {d : Kd α} {e : Nat} {base : Nat} {ok : Nat → Prop} {v : Value} {xs : List α} (h : IsS75 w0 W g f0 f1) (ho : d.S e W base ok v xs) (ht : ∀ q, q ∈ e :: d.E → q ≠ 75) : d.S e W base (fun k => ok k ∧ k ≠ g) v xs := by
  obtain ⟨A1, c1, hb, hg, hr1⟩ := h
  exact Kd.S_types ho hb ht
theorem IsS75.own_neS {w0 W : World} {g : Nat} {f0 : Int} {f1 : List Int} {α : Type} {d : Kd α} {e : Nat} {base : Nat} {ok : Nat → Prop} {v : Value} {xs : List α} (h : IsS75 w0 W g f0 f1) (ho : d.S e W base ok v xs) (ht : e ≠ 75) : some g ≠ v.ownBlock := by
  obtain ⟨A1, c1, hb, hg, hr1⟩ := h
  exact Kd.S_ne ho hb ht
theorem IsS75.lt {w0 W : World} {g : Nat} {f0 : Int} {f1 : List Int} (h : IsS75 w0 W g f0 f1) : g < W.heap.size := by
  obtain ⟨A1, c1, hb, hg, hr1⟩ := h
  exact blk_lt hb
theorem IsS75.ge {w0 W : World} {g : Nat} {f0 : Int} {f1 : List Int} (h : IsS75 w0 W g f0 f1) : w0.heap.size ≤ g := by
  obtain ⟨A1, c1, hb, hg, hr1⟩ := h
  exact hg
theorem IsS75.ne_blk {w0 W : World} {g : Nat} {f0 : Int} {f1 : List Int} {a : Nat} {cs : Array Value} {t : TypeId} {fr : Nat × Nat} (h : IsS75 w0 W g f0 f1) (hb2 : W.heap[a]? = some (.cells cs t fr)) (ht : t ≠ 75) : g ≠ a := by
  obtain ⟨A1, c1, hb, hg, hr1⟩ := h
  rintro rfl
  rw [hb] at hb2
  injection hb2 with hb2
  injection hb2 with _ ht2
  exact ht ht2.symm
theorem IsS75.far {w0 W : World} {g : Nat} {f0 : Int} {f1 : List Int} {p : Addr} (h : IsS75 w0 W g f0 f1) (hne : g ≠ p.block) (u : Value) : IsS75 w0 (W.setCell p u) g f0 f1 := by
  obtain ⟨A1, c1, hb, hg, hr1⟩ := h
  exact ⟨A1, c1, blk_far hb hne u, hg, hr1⟩
theorem cellS75_0 {W : World} {g : Nat} {A1 : Option Addr} {c1 : Nat} {f0 : Int} {f1 : List Int} (h : W.heap[g]? = some (.cells #[.int .i64 f0, .slice A1 f1.length c1] 75 (0, 0))) : W.cell? ⟨g, 0, none⟩ = some (.int .i64 f0) := (blk_cell h 0).trans rfl
theorem IsS75.set_0 {w0 W : World} {g : Nat} {f0 : Int} {f1 : List Int} (h : IsS75 w0 W g f0 f1) (x : Int) : IsS75 w0 (W.setCell ⟨g, 0, none⟩ (.int .i64 x)) g x f1 := by
  obtain ⟨A1, c1, hb, hg, hr1⟩ := h
  exact ⟨A1, c1, by simpa using blk_set hb 0 (.int .i64 x), hg, hr1⟩
theorem cellS75_1 {W : World} {g : Nat} {A1 : Option Addr} {c1 : Nat} {f0 : Int} {f1 : List Int} (h : W.heap[g]? = some (.cells #[.int .i64 f0, .slice A1 f1.length c1] 75 (0, 0))) : W.cell? ⟨g, 1, none⟩ = some (.slice A1 f1.length c1) := (blk_cell h 1).trans rfl
theorem IsS75.new (w0 W : World) (A1 : Option Addr) (c1 : Nat) (f0 : Int) (f1 : List Int) (hB : Below w0.heap.size w0 W) (hr1 : Kd.C (Kd.int .u64) w0 A1 f1.length f1) : IsS75 w0 (W.alloc (.cells #[.int .i64 f0, .slice A1 f1.length c1] 75)) W.heap.size f0 f1 := ⟨A1, c1, by simpa using heap_alloc_new W _, hB.size, hr1⟩

/-! ### croftlaw1_held: function 47 -/
def croftlaw1_held.f (a0 : Int) (a1 : Bool) (a2 : Int) (a3 : Bool) (a4 : Int) : Option (Bool) := if a3 = true then (if a2 ≤ a4 then (if a1 = true then (some (a0 == a2)) else (some false)) else (if a1 = true then (some false) else (some (a0 == 0)))) else (if a1 = true then (some false) else (some (a0 == 0)))
set_option maxHeartbeats 8000000 in
set_option maxRecDepth 100000 in
theorem croftlaw1_held.calls (a0 : Int) (a1 : Bool) (a2 : Int) (a3 : Bool) (a4 : Int) (r : Bool) (w : World) (h : croftlaw1_held.f a0 a1 a2 a3 a4 = some r) :
    Calls Try.prog 47 #[.int .u64 a0, .bool a1, .int .u64 a2, .bool a3, .int .u64 a4] w fun e w' => e = .returned (.bool r) ∧ Drawn0 w w' := by
  have H : (if a3 = true then (if a2 ≤ a4 then (if a1 = true then (some (a0 == a2)) else (some false)) else (if a1 = true then (some false) else (some (a0 == 0)))) else (if a1 = true then (some false) else (some (a0 == 0)))) = some r := h
  clear h
  by_cases c6 : a3 = true
  · subst c6
    have H1 : (if a2 ≤ a4 then (if a1 = true then (some (a0 == a2)) else (some false)) else (if a1 = true then (some false) else (some (a0 == 0)))) = some r := by rw [if_pos rfl] at H; exact H
    clear H
    have H := H1
    clear H1
    by_cases c7 : a2 ≤ a4
    · rw [if_pos c7] at H
      have c7b0 : decide (a2 ≤ a4) = true := decide_eq_true c7
      clear c7
      by_cases c8 : a1 = true
      · subst c8
        have H1 : (some (a0 == a2)) = some r := by rw [if_pos rfl] at H; exact H
        clear H
        have H := H1
        clear H1
        obtain rfl := Option.some.inj H
        go_enter Try.func47, Try.ntmps47
        go_wp2
        go_ret
        exact ⟨by first | rfl | (simp; done) | (simp [*]; done), by repeat (first | exact Drawn0.refl _ | apply Drawn0.step)⟩
      · replace c8 := Bool.eq_false_iff.mpr c8
        subst c8
        have H1 : (some false) = some r := by rw [if_neg (show ¬ (false = true) by decide)] at H; exact H
        clear H
        have H := H1
        clear H1
        obtain rfl := Option.some.inj H
        go_enter Try.func47, Try.ntmps47
        go_wp2
        go_ret
        exact ⟨by first | rfl | (simp; done) | (simp [*]; done), by repeat (first | exact Drawn0.refl _ | apply Drawn0.step)⟩
    · rw [if_neg c7] at H
      have c7b0 : decide (a2 ≤ a4) = false := decide_eq_false c7
      clear c7
      by_cases c9 : a1 = true
      · subst c9
        have H1 : (some false) = some r := by rw [if_pos rfl] at H; exact H
        clear H
        have H := H1
        clear H1
        obtain rfl := Option.some.inj H
        go_enter Try.func47, Try.ntmps47
        go_wp2
        go_ret
        exact ⟨by first | rfl | (simp; done) | (simp [*]; done), by repeat (first | exact Drawn0.refl _ | apply Drawn0.step)⟩
      · replace c9 := Bool.eq_false_iff.mpr c9
        subst c9
        have H1 : (some (a0 == 0)) = some r := by rw [if_neg (show ¬ (false = true) by decide)] at H; exact H
        clear H
        have H := H1
        clear H1
        obtain rfl := Option.some.inj H
        go_enter Try.func47, Try.ntmps47
        go_wp2
        go_ret
        exact ⟨by first | rfl | (simp; done) | (simp [*]; done), by repeat (first | exact Drawn0.refl _ | apply Drawn0.step)⟩
  · replace c6 := Bool.eq_false_iff.mpr c6
    subst c6
    have H1 : (if a1 = true then (some false) else (some (a0 == 0))) = some r := by rw [if_neg (show ¬ (false = true) by decide)] at H; exact H
    clear H
    have H := H1
    clear H1
    by_cases c10 : a1 = true
    · subst c10
      have H1 : (some false) = some r := by rw [if_pos rfl] at H; exact H
      clear H
      have H := H1
      clear H1
      obtain rfl := Option.some.inj H
      go_enter Try.func47, Try.ntmps47
      go_wp2
      go_ret
      exact ⟨by first | rfl | (simp; done) | (simp [*]; done), by repeat (first | exact Drawn0.refl _ | apply Drawn0.step)⟩
    · replace c10 := Bool.eq_false_iff.mpr c10
      subst c10
      have H1 : (some (a0 == 0)) = some r := by rw [if_neg (show ¬ (false = true) by decide)] at H; exact H
      clear H
      have H := H1
      clear H1
      obtain rfl := Option.some.inj H
      go_enter Try.func47, Try.ntmps47
      go_wp2
      go_ret
      exact ⟨by first | rfl | (simp; done) | (simp [*]; done), by repeat (first | exact Drawn0.refl _ | apply Drawn0.step)⟩

/-! ### croftref1_Words: function 19 -/
def croftref1_Words.l0 : Nat → List Bool → List Int → Int → Option (List Int)
  | 0, _, _, _ => none
  | k + 1, x0, x3, x4 => if x4 < (x0.length : Int) then (if 0 ≤ x4 then (if rdOf false x0 x4 = true then (if 0 ≤ (wrap64 (Int.tdiv x4 64)) then (if (wrap64 (Int.tdiv x4 64)) < (x3.length : Int) then ((croftref1_Power.f k (Int.tmod x4 64)).bind fun t120 => (croftref1_Words.l0 k x0 (x3.set ((wrap64 (Int.tdiv x4 64)) : Int).toNat (IntKind.u64.wrap ((rd x3 (wrap64 (Int.tdiv x4 64))) + t120))) (wrap64 (x4 + 1)))) else (none)) else (none)) else (croftref1_Words.l0 k x0 x3 (wrap64 (x4 + 1)))) else (none)) else (some x3)
def croftref1_Words.f (k : Nat) (l0 : List Bool) : Option (List Int) := if 0 ≤ (wrap64 (Int.tdiv (wrap64 ((l0.length : Int) + 63)) 64)) then (if (wrap64 (Int.tdiv (wrap64 ((l0.length : Int) + 63)) 64) : Int).toNat ≤ 35184372088832 then (croftref1_Words.l0 k l0 (List.replicate (wrap64 (Int.tdiv (wrap64 ((l0.length : Int) + 63)) 64) : Int).toNat 0) 0) else (none)) else (none)
theorem croftref1_Words.mono_l : ∀ k, (∀ y0 y1 y2, LeO (croftref1_Words.l0 k y0 y1 y2) (croftref1_Words.l0 (k + 1) y0 y1 y2))
  | 0 => fun _ _ _ r h => by simp [croftref1_Words.l0] at h
  | k + 1 => by
    have ih0 := croftref1_Words.mono_l k
    · intro y0 y1 y2
      unfold croftref1_Words.l0
      repeat' first
      | (with_reducible exact ih0 _ _ _)
      | (with_reducible exact croftref1_Power.mono _ _)
      | (with_reducible exact LeO.refl _)
      | (with_reducible exact LeO.none _)
      | (with_reducible refine LeO.ite ?_ ?_)
      | (with_reducible refine LeO.bind ?_ (fun _ => ?_))
      | exact ih0 _ _ _
      | exact croftref1_Power.mono _ _
      | exact LeO.none _
      | refine LeO.ite ?_ ?_
      | refine LeO.bind ?_ (fun _ => ?_)
theorem croftref1_Words.mono : ∀ a0 k, LeO (croftref1_Words.f k a0) (croftref1_Words.f (k + 1) a0) := by
  intro a0 k
  have ih0 := croftref1_Words.mono_l k
  unfold croftref1_Words.f
  repeat' first
      | (with_reducible exact ih0 _ _ _)
      | (with_reducible exact croftref1_Power.mono _ _)
      | (with_reducible exact LeO.refl _)
      | (with_reducible exact LeO.none _)
      | (with_reducible refine LeO.ite ?_ ?_)
      | (with_reducible refine LeO.bind ?_ (fun _ => ?_))
      | exact ih0 _ _ _
      | exact croftref1_Power.mono _ _
      | exact LeO.none _
      | refine LeO.ite ?_ ?_
      | refine LeO.bind ?_ (fun _ => ?_)
def croftref1_Words.T6 : Bool × List (List Nat × List Nat) := (true, [([], []), ([], []), ([1], [1]), ([], []), ([], []), ([4], [4]), ([3, 5], [3, 5]), ([6], [6]), ([], []), ([8], [8]), ([9], [9]), ([7, 10], [7, 10]), ([0, 2, 0, 1, 2, 3, 4, 5, 6, 7, 8, 9, 10, 11], [0, 2]), ([12, 11, 10, 0, 1, 2, 3, 4, 5, 6, 7, 8, 9, 10, 11], [11, 12])])
def croftref1_Words.B6 : List Nat := [0, 0, 2, 0, 0, 16, 56, 120, 0, 256, 768, 2040, 4095, 8191]
theorem croftref1_Words.tab6 : rtab .any (opsOf Try.f19 6) = croftref1_Words.T6 := by kernel_rfl
theorem croftref1_Words.bits6 : waitsOk croftref1_Words.T6.2 croftref1_Words.B6 = true := by kernel_rfl
set_option maxHeartbeats 8000000 in
set_option maxRecDepth 100000 in
theorem croftref1_Words.calls (k : Nat) (A0 : Option Addr) (c0 : Nat) (l0 : List Bool) (r : List Int) (w : World) (hr0 : Kd.C Kd.bool w A0 l0.length l0) (hc0 : l0.length ≤ c0) (h : croftref1_Words.f k l0 = some r) :
    Calls Try.prog 19 #[.slice A0 l0.length c0] w fun e w' => ∃ v0_ : Value, e = .returned (v0_) ∧ Kd.R (Kd.int .u64) 22 w' w.heap.size (fun _ => True) v0_ r ∧ Below w.heap.size w w' := by
  have HR0 := Aside0.mk hr0
  have HC0 := Aside0.mk hc0
  clear hr0 hc0
  have HB := Aside0.mk (Below.refl w.heap.size w)
  have H : (if 0 ≤ (wrap64 (Int.tdiv (wrap64 ((l0.length : Int) + 63)) 64)) then (if (wrap64 (Int.tdiv (wrap64 ((l0.length : Int) + 63)) 64) : Int).toNat ≤ 35184372088832 then (croftref1_Words.l0 k l0 (List.replicate (wrap64 (Int.tdiv (wrap64 ((l0.length : Int) + 63)) 64) : Int).toNat 0) 0) else (none)) else (none)) = some r := h
  clear h
  obtain ⟨ji2, hji2⟩ : ∃ j_ : Int, (wrap64 (Int.tdiv (wrap64 ((l0.length : Int) + 63)) 64)) = j_ := ⟨_, rfl⟩
  replace H : (if 0 ≤ (ji2) then (if (ji2 : Int).toNat ≤ 35184372088832 then (croftref1_Words.l0 k l0 (List.replicate (ji2 : Int).toNat 0) 0) else (none)) else (none)) = some r := by first | (rw [hji2] at H; exact H) | (simp only [hji2] at H ⊢; exact H)
  have hji2w : (IntKind.i64.wrap (Int.tdiv (wrap64 ((l0.length : Int) + 63)) 64)) = ji2 := (i64_w _).trans hji2
  by_cases c3 : 0 ≤ (ji2)
  · rw [if_pos c3] at H
    have c3b0 := eq_true c3
    have c3b1 : decide (0 ≤ (ji2)) = true := decide_eq_true c3
    clear c3
    by_cases c4 : (ji2 : Int).toNat ≤ 35184372088832
    · rw [if_pos c4] at H
      have c4b0 := eq_true c4
      have c4b1 : decide ((ji2 : Int).toNat ≤ 35184372088832) = true := decide_eq_true c4
      clear c4
      obtain ⟨y115, hy115⟩ : ∃ y_ : List Int, y_ = (List.replicate (ji2 : Int).toNat 0) := ⟨_, rfl⟩
      replace H : (croftref1_Words.l0 k l0 y115 0) = some r := by first | (rw [hy115]; with_reducible exact H) | (have H2_ := (Option.bind_some _ _).symm.trans H; rw [hy115]; with_reducible exact H2_) | (have H2_ := (Option.bind_some _ _).symm.trans H; with_reducible exact H2_) | with_reducible exact H | (rw [hy115]; exact H) | exact H
      have Ny115 := Aside0.mk hy115
      clear hy115
      have H' := Aside0.mk H
      clear H
      go_enter Try.func19, Try.ntmps19
      go_wp2_with (first | ((with_reducible refine gate_dst (N := 9) rfl ?_); refine Kd.R_make (Kd.int .u64) _ 22 rfl (N := 9) rfl 29 _ _ rfl ji2 rfl rfl Try.underlying29 (.int .u64 0) 8 info22 rfl (by decide) (by omega) 0 (ok := fun _ => True) (okp := fun _ => True) rfl (fun _ hk => hk) trivial (of_decide_eq_true (by first | (with_reducible assumption) | assumption)) (Nat.le_trans (Nat.mul_le_mul_right _ (of_decide_eq_true (by first | (with_reducible assumption) | assumption) : ji2.toNat ≤ 35184372088832)) (by omega)) (Below.refl _ _) (Nat.le_refl _) ?_; intro v116 w5 ho6 hb hg_ hnew_; clear hg_ hnew_; (first | rw [← Ny115.out] at ho6 | (simp only [Int.reduceToNat] at ho6; rw [← Ny115.out] at ho6)); have n0_ := Aside0.mk (Kd.R_lower ho6 (below_size (by repeat (first | (with_reducible first | exact HB.out | apply below_alloc | apply pw_below_drewN | apply below_drew1) | exact HB.out)))); have n1_ := Aside0.mk (below_step (by repeat (first | (with_reducible first | exact HB.out | apply below_alloc | apply pw_below_drewN | apply below_drew1) | exact HB.out)) hb); clear HB; have HO117 := n0_; have HB := n1_; clear n0_ n1_; clear hb ho6))
      go_loopg [4] k (fun kq v4 w' => ∃ (x3_1 : List Int) (x4_1 : Int), v4 = .int .i64 x4_1 ∧ Aside0 (croftref1_Words.l0 kq l0 x3_1 x4_1 = some r) ∧ Aside0 (kq ≤ k) ∧ Aside0 (Kd.R (Kd.int .u64) 22 w' w.heap.size (fun _ => True) v116 x3_1) ∧ Aside0 (Below w.heap.size w w'))
      case atStart => exact ⟨(y115), (0), (by first | rfl | (simp; done) | (simp [*]; done)), H', ⟨Nat.le_refl _⟩, ⟨by (with_reducible repeat (first | apply Kd.R_alloc | apply Kd.R_drewN | apply Kd.R_drew)); exact HO117.out⟩, ⟨by repeat (first | (with_reducible first | exact HB.out | apply below_alloc | apply pw_below_drewN | apply below_drew1) | exact HB.out)⟩⟩
      case round =>
        clear H'
        try clear c1
        try clear p2
        try clear c3
        try clear c3b0
        try clear c3b1
        try clear c4
        try clear c4b0
        try clear c4b1
        try clear p6
        obtain ⟨x3_1, x4_1, rfl, HA, HK1, HO_3, HB⟩ := hrel
        cases gk with
        | zero => exact absurd HA.out (by simp [croftref1_Words.l0])
        | succ k1 =>
          have H := HA.out
          clear HA
          simp only [croftref1_Words.l0] at H
          by_cases c7 : x4_1 < (l0.length : Int)
          · rw [if_pos c7] at H
            have c7b0 : decide (x4_1 < (l0.length : Int)) = true := decide_eq_true c7
            clear c7
            by_cases c8 : 0 ≤ x4_1
            · rw [if_pos c8] at H
              have c8b0 : decide (0 ≤ x4_1) = true := decide_eq_true c8
              clear c8
              obtain ⟨bq9, hbq9⟩ : ∃ b_ : Bool, b_ = (rdOf false l0 x4_1) := ⟨_, rfl⟩
              replace H : (if bq9 = true then (if 0 ≤ (wrap64 (Int.tdiv x4_1 64)) then (if (wrap64 (Int.tdiv x4_1 64)) < (x3_1.length : Int) then ((croftref1_Power.f k1 (Int.tmod x4_1 64)).bind fun t120 => (croftref1_Words.l0 k1 l0 (x3_1.set ((wrap64 (Int.tdiv x4_1 64)) : Int).toNat (IntKind.u64.wrap ((rd x3_1 (wrap64 (Int.tdiv x4_1 64))) + t120))) (wrap64 (x4_1 + 1)))) else (none)) else (none)) else (croftref1_Words.l0 k1 l0 x3_1 (wrap64 (x4_1 + 1)))) = some r := by rw [← hbq9] at H; exact H
              have Nbq9 := Aside0.mk hbq9
              clear hbq9
              by_cases c10 : bq9 = true
              · subst c10
                have H1 : (if 0 ≤ (wrap64 (Int.tdiv x4_1 64)) then (if (wrap64 (Int.tdiv x4_1 64)) < (x3_1.length : Int) then ((croftref1_Power.f k1 (Int.tmod x4_1 64)).bind fun t120 => (croftref1_Words.l0 k1 l0 (x3_1.set ((wrap64 (Int.tdiv x4_1 64)) : Int).toNat (IntKind.u64.wrap ((rd x3_1 (wrap64 (Int.tdiv x4_1 64))) + t120))) (wrap64 (x4_1 + 1)))) else (none)) else (none)) = some r := by rw [if_pos rfl] at H; exact H
                clear H
                have H := H1
                clear H1
                obtain ⟨ji11, hji11⟩ : ∃ j_ : Int, (wrap64 (Int.tdiv x4_1 64)) = j_ := ⟨_, rfl⟩
                replace H : (if 0 ≤ (ji11) then (if (ji11) < (x3_1.length : Int) then ((croftref1_Power.f k1 (Int.tmod x4_1 64)).bind fun t120 => (croftref1_Words.l0 k1 l0 (x3_1.set ((ji11) : Int).toNat (IntKind.u64.wrap ((rd x3_1 (ji11)) + t120))) (wrap64 (x4_1 + 1)))) else (none)) else (none)) = some r := by first | (rw [hji11] at H; exact H) | (simp only [hji11] at H ⊢; exact H)
                have hji11w : (IntKind.i64.wrap (Int.tdiv x4_1 64)) = ji11 := (i64_w _).trans hji11
                by_cases c12 : 0 ≤ (ji11)
                · rw [if_pos c12] at H
                  have c12b0 : decide (0 ≤ (ji11)) = true := decide_eq_true c12
                  clear c12
                  by_cases c13 : (ji11) < (x3_1.length : Int)
                  · rw [if_pos c13] at H
                    have c13b0 : decide ((ji11) < (x3_1.length : Int)) = true := decide_eq_true c13
                    clear c13
                    replace H := Option.bind_eq_some_iff.mp H
                    obtain ⟨t120, A140, H⟩ := H
                    replace H : (croftref1_Words.l0 k1 l0 (x3_1.set ((ji11) : Int).toNat (IntKind.u64.wrap ((rd x3_1 (ji11)) + t120))) (wrap64 (x4_1 + 1))) = some r := H
                    have A14 := Aside0.mk A140
                    clear A140
                    obtain ⟨y121, hy121⟩ : ∃ y_ : List Int, y_ = (x3_1.set ((ji11) : Int).toNat (IntKind.u64.wrap ((rd x3_1 (ji11)) + t120))) := ⟨_, rfl⟩
                    replace H : (croftref1_Words.l0 k1 l0 y121 (wrap64 (x4_1 + 1))) = some r := by first | (rw [hy121]; with_reducible exact H) | (have H2_ := (Option.bind_some _ _).symm.trans H; rw [hy121]; with_reducible exact H2_) | (have H2_ := (Option.bind_some _ _).symm.trans H; with_reducible exact H2_) | with_reducible exact H | (rw [hy121]; exact H) | exact H
                    have Ny121 := Aside0.mk hy121
                    clear hy121
                    have H' := Aside0.mk H
                    clear H
                    have p118 : 0 ≤ (x4_1 : Int) := of_decide_eq_true (by first | (with_reducible assumption) | assumption)
                    have q118 : x4_1 < (l0.length : Int) := of_decide_eq_true (by first | (with_reducible assumption) | assumption)
                    obtain ⟨ad118, e118, hx118_0⟩ := Kd.at_bool HR0.out x4_1 p118 q118
                    (try rw [← Nbq9.out] at hx118_0)
                    cases e118
                    replace hx118_0 := (HB.out.cell (World.block_lt_of_cell? w _ hx118_0)).trans hx118_0
                    replace p118 := eq_true p118
                    replace q118 := eq_true q118
                    try go_wp2
                    have n0_ := Aside0.mk (Kd.R_drew HO_3.out)
                    have n1_ := Aside0.mk (below_drew1 HB.out)
                    clear HO_3
                    clear HB
                    have HO_3 := n0_
                    have HB := n1_
                    clear n0_ n1_
                    obtain ⟨Ao17, co17, eo17⟩ := Kd.R_slice HO_3.out
                    (first | subst eo17 | (injection eo17 with f1_ f2_ f3_; have f4_ := f1_.symm; have f5_ := f3_.symm; clear f1_ f2_ f3_; subst f4_; subst f5_))
                    have p119 : 0 ≤ ((ji11) : Int) := of_decide_eq_true (by first | (with_reducible assumption) | assumption)
                    have q119 : (ji11) < (x3_1.length : Int) := of_decide_eq_true (by first | (with_reducible assumption) | assumption)
                    obtain ⟨ad119, e119, hx119_0⟩ := Kd.at_int (Kd.R_reads' HO_3.out).2.2 (ji11) p119 q119
                    cases e119
                    replace p119 := eq_true p119
                    replace q119 := eq_true q119
                    refine start_ (n := 14) (S := fun w' => w'.cell? (ad119.add ((ji11)).toNat) = some (.int .u64 (rd x3_1 (ji11)))) (ds := [13]) #[false, false, false, false, false, false, false, false, false, false, false, false, false, false] (by kernel_rfl) rfl rfl (hx119_0) (fun hHeld => ?_); refine with_tabW croftref1_Words.tab6 croftref1_Words.bits6 (fun HT_ HW_ => ?_)
                    generalize wr.drew = w16 at HO_3 HB hx119_0 hHeld ⊢
                    refine pure_ (i := 0) (N := some 20) (v := ?_) (a' := ?_) #[true, false, false, false, false, false, false, false, false, false, false, false, false, false] rfl rfl (any_of HT_.out (by kernel_rfl)) (fun _ _ _ h => h) (Or.inl ⟨by rfl, ?_⟩) ?_ ?_
                    rotate_left
                    · intro w'
                      go_simp
                      with_reducible rfl
                    rotate_left
                    · simp only [Act.put, List.setIfInBounds_toArray, List.set_cons_zero, List.set_cons_succ, i64_w, i32_w]
                      rfl
                    refine pure_ (i := 1) (N := some 21) (v := ?_) (a' := ?_) #[true, true, false, false, false, false, false, false, false, false, false, false, false, false] rfl rfl (any_of HT_.out (by kernel_rfl)) (fun _ _ _ h => h) (Or.inl ⟨by rfl, ?_⟩) ?_ ?_
                    rotate_left
                    · intro w'
                      go_simp
                      with_reducible rfl
                    rotate_left
                    · simp only [Act.put, List.setIfInBounds_toArray, List.set_cons_zero, List.set_cons_succ, i64_w, i32_w]
                      rfl
                    refine pure_ (i := 2) (N := some 22) (v := ?_) (a' := ?_) #[true, true, true, false, false, false, false, false, false, false, false, false, false, false] rfl rfl (any_of HT_.out (by kernel_rfl)) (fun _ _ _ h => h) (Or.inl ⟨by rfl, ?_⟩) ?_ ?_
                    rotate_left
                    · intro w'
                      go_simp
                      with_reducible rfl
                    rotate_left
                    · simp only [Act.put, List.setIfInBounds_toArray, List.set_cons_zero, List.set_cons_succ, i64_w, i32_w]
                      rfl
                    refine pure_ (i := 3) (N := some 23) (v := ?_) (a' := ?_) #[true, true, true, true, false, false, false, false, false, false, false, false, false, false] rfl rfl (any_of HT_.out (by kernel_rfl)) (fun _ _ _ h => h) (Or.inl ⟨by rfl, ?_⟩) ?_ ?_
                    rotate_left
                    · intro w'
                      go_simp
                      with_reducible rfl
                    rotate_left
                    · simp only [Act.put, List.setIfInBounds_toArray, List.set_cons_zero, List.set_cons_succ, i64_w, i32_w]
                      rfl
                    refine pure_ (i := 4) (N := some 24) (v := ?_) (a' := ?_) #[true, true, true, true, true, false, false, false, false, false, false, false, false, false] rfl rfl (any_of HT_.out (by kernel_rfl)) (fun _ _ _ h => h) (Or.inl ⟨by rfl, ?_⟩) ?_ ?_
                    rotate_left
                    · intro w'
                      go_simp
                      with_reducible rfl
                    rotate_left
                    · simp only [Act.put, List.setIfInBounds_toArray, List.set_cons_zero, List.set_cons_succ, i64_w, i32_w]
                      rfl
                    refine pure_ (i := 5) (N := some 25) (v := ?_) (a' := ?_) #[true, true, true, true, true, true, false, false, false, false, false, false, false, false] rfl rfl (any_of HT_.out (by kernel_rfl)) (fun _ _ _ h => h) (Or.inl ⟨by rfl, ?_⟩) ?_ ?_
                    rotate_left
                    · intro w'
                      go_simp
                      with_reducible rfl
                    rotate_left
                    · simp only [Act.put, List.setIfInBounds_toArray, List.set_cons_zero, List.set_cons_succ, i64_w, i32_w]
                      rfl
                    refine pure_ (i := 6) (N := some 26) (v := ?_) (a' := ?_) #[true, true, true, true, true, true, true, false, false, false, false, false, false, false] rfl rfl (any_of HT_.out (by kernel_rfl)) (fun _ _ _ h => h) (Or.inl ⟨by rfl, ?_⟩) ?_ ?_
                    rotate_left
                    · intro w'
                      go_simp
                      with_reducible rfl
                    rotate_left
                    · simp only [Act.put, List.setIfInBounds_toArray, List.set_cons_zero, List.set_cons_succ, i64_w, i32_w]
                      rfl
                    refine pure_ (i := 8) (N := some 28) (v := ?_) (a' := ?_) #[true, true, true, true, true, true, true, false, true, false, false, false, false, false] rfl rfl (any_of HT_.out (by kernel_rfl)) (fun _ _ _ h => h) (Or.inl ⟨by rfl, ?_⟩) ?_ ?_
                    rotate_left
                    · intro w'
                      go_simp
                      with_reducible rfl
                    rotate_left
                    · simp only [Act.put, List.setIfInBounds_toArray, List.set_cons_zero, List.set_cons_succ, i64_w, i32_w]
                      rfl
                    refine pure_ (i := 9) (N := some 29) (v := ?_) (a' := ?_) #[true, true, true, true, true, true, true, false, true, true, false, false, false, false] rfl rfl (any_of HT_.out (by kernel_rfl)) (fun _ _ _ h => h) (Or.inl ⟨by rfl, ?_⟩) ?_ ?_
                    rotate_left
                    · intro w'
                      go_simp
                      with_reducible rfl
                    rotate_left
                    · simp only [Act.put, List.setIfInBounds_toArray, List.set_cons_zero, List.set_cons_succ, i64_w, i32_w]
                      rfl
                    refine take_ (i := 7) (N := some 27) (v := ?_) (a' := ?_) #[true, true, true, true, true, true, true, true, true, true, false, false, false, false] rfl rfl (take_ofW HT_.out HW_.out (by kernel_rfl)) (fun _ _ _ h => h) (Or.inl ⟨by rfl, ?_⟩) hHeld ?_ ?_
                    rotate_left
                    · intro w' s0
                      go_simp
                      with_reducible rfl
                    rotate_left
                    · simp only [Act.put, List.setIfInBounds_toArray, List.set_cons_zero, List.set_cons_succ, i64_w, i32_w]
                      rfl
                    refine one_ (i := 10) (N := some 30) #[true, true, true, true, true, true, true, true, true, true, true, false, false, false] rfl rfl (one_of HT_.out (by kernel_rfl)) (by decide) (fun K hK => ?_)
                    refine goes_ Try.func65 (by kernel_rfl) rfl #[.int .i64 (Int.tmod x4_1 64)] (by rfl) rfl rfl (by (try simp only [List.map_toArray, List.map_cons, List.map_nil]); first | done | rfl | (simp only [List.length_drop, List.length_take]; rfl)) ?_
                    with_reducible refine (croftref1_Power.calls k1 (Int.tmod x4_1 64) t120 _ A14.out).mono ?_
                    rintro e w' ⟨rfl, ⟨nd, rfl⟩⟩
                    refine ⟨_, rfl, ?_⟩
                    have p15 : 0 ≤ ((ji11) : Int) := of_decide_eq_true (by first | (with_reducible assumption) | assumption)
                    have q15 : ((ji11) : Int) < ((x3_1.length : Int) : Int) := of_decide_eq_true (by first | (with_reducible assumption) | assumption)
                    obtain ⟨go15, co15, eo15, gb15, gl15, cl15, HG15⟩ := Kd.R_form HO_3.out (by omega)
                    (first | cases eo15 | (injection eo15 with ea_ en_ ec_; (first | subst ea_ | (injection ea_ with ea_; subst ea_)); subst ec_; clear en_))
                    have GB15 := Aside0.mk gb15
                    have GG15 := Aside0.mk HG15
                    clear gb15 gl15 HG15
                    (first | simp only [add_plain] at hx119_0 | skip)
                    obtain ⟨hx15_0, hf15_0⟩ := Kd.R_celln 0 HO_3.out ((ji11) : Int) p15 q15
                    replace p15 := eq_true p15
                    replace q15 := eq_true q15
                    have HP18 := Kd.R_putn HO_3.out ((ji11) : Int) (IntKind.u64.wrap ((rd x3_1 (ji11)) + t120))
                    rw [← Ny121.out] at HP18
                    have HQ18 := Aside0.mk HP18
                    clear HP18
                    refine hK.out _ _ (hHeld) (fun hHeld => ?_)
                    clear hK K
                    refine norm_ (a' := ?_) ?_ ?_
                    rotate_left
                    · show Act.put _ (some 30) _ = _
                      simp only [Act.put, List.setIfInBounds_toArray, List.set_cons_zero, List.set_cons_succ, i64_w, i32_w]
                      rfl
                    refine pure_ (i := 11) (N := some 31) (v := ?_) (a' := ?_) #[true, true, true, true, true, true, true, true, true, true, true, true, false, false] rfl rfl (any_of HT_.out (by kernel_rfl)) (fun _ _ _ h => h) (Or.inl ⟨by rfl, ?_⟩) ?_ ?_
                    rotate_left
                    · intro w'
                      go_simp
                      with_reducible rfl
                    rotate_left
                    · simp only [Act.put, List.setIfInBounds_toArray, List.set_cons_zero, List.set_cons_succ, i64_w, i32_w]
                      rfl
                    refine pure_ (i := 12) (N := some 32) (v := ?_) (a' := ?_) #[true, true, true, true, true, true, true, true, true, true, true, true, true, false] rfl rfl (any_of HT_.out (by kernel_rfl)) (fun _ _ _ h => h) (Or.inl ⟨by rfl, ?_⟩) ?_ ?_
                    rotate_left
                    · intro w'
                      go_simp
                      with_reducible rfl
                    rotate_left
                    · simp only [Act.put, List.setIfInBounds_toArray, List.set_cons_zero, List.set_cons_succ, i64_w, i32_w]
                      rfl
                    refine last_ (i := 13) (N := none) #[true, true, true, true, true, true, true, true, true, true, true, true, true, true] rfl rfl (one_of HT_.out (by kernel_rfl)) (by decide) (fun K hK => ?_)
                    refine skip_ (w1 := ?_) (by rfl) rfl ?_ ?_
                    rotate_left
                    · go_simp
                      rfl
                    refine hK.out _ _ ?_
                    clear hK K
                    refine done_ (done_of HT_.out (by kernel_rfl)) ?_
                    try go_wp2
                    go_roundg k1
                    case measure => have := HK1.out; omega
                    case rel => exact ⟨(y121), (wrap64 (x4_1 + 1)), (by first | rfl | (simp; done) | (simp [*]; done)), H', ⟨by have := HK1.out; omega⟩, ⟨by (with_reducible repeat (first | apply Kd.R_alloc | apply Kd.R_drewN | apply Kd.R_drew)); exact HQ18.out⟩, ⟨by repeat (first | (with_reducible first | exact HB.out | apply below_alloc | apply pw_below_drewN | apply below_drew1 | refine below_set ?_ GB15.out) | exact HB.out)⟩⟩
                  · rw [if_neg c13] at H
                    exact absurd H (by simp)
                · rw [if_neg c12] at H
                  exact absurd H (by simp)
              · replace c10 := Bool.eq_false_iff.mpr c10
                subst c10
                have H1 : (croftref1_Words.l0 k1 l0 x3_1 (wrap64 (x4_1 + 1))) = some r := by rw [if_neg (show ¬ (false = true) by decide)] at H; exact H
                clear H
                have H := H1
                clear H1
                have H' := Aside0.mk H
                clear H
                have p118 : 0 ≤ (x4_1 : Int) := of_decide_eq_true (by first | (with_reducible assumption) | assumption)
                have q118 : x4_1 < (l0.length : Int) := of_decide_eq_true (by first | (with_reducible assumption) | assumption)
                obtain ⟨ad118, e118, hx118_0⟩ := Kd.at_bool HR0.out x4_1 p118 q118
                (try rw [← Nbq9.out] at hx118_0)
                cases e118
                replace hx118_0 := (HB.out.cell (World.block_lt_of_cell? w _ hx118_0)).trans hx118_0
                replace p118 := eq_true p118
                replace q118 := eq_true q118
                go_wp2
                go_roundg k1
                case measure => have := HK1.out; omega
                case rel => exact ⟨(x3_1), (wrap64 (x4_1 + 1)), (by first | rfl | (simp; done) | (simp [*]; done)), H', ⟨by have := HK1.out; omega⟩, ⟨by (with_reducible repeat (first | apply Kd.R_alloc | apply Kd.R_drewN | apply Kd.R_drew)); exact HO_3.out⟩, ⟨by repeat (first | (with_reducible first | exact HB.out | apply below_alloc | apply pw_below_drewN | apply below_drew1) | exact HB.out)⟩⟩
            · rw [if_neg c8] at H
              exact absurd H (by simp)
          · rw [if_neg c7] at H
            have c7b0 : decide (x4_1 < (l0.length : Int)) = false := decide_eq_false c7
            clear c7
            obtain rfl := Option.some.inj H
            go_wp2
            go_ret
            exact ⟨_, by first | rfl | (simp [errW_none, errW_some] <;> rfl) | (simp only [← hji2]; first | rfl | (simp [errW_none, errW_some] <;> rfl)) | (simp [*, errW_none, errW_some] <;> rfl), by (with_reducible repeat (first | apply Kd.R_alloc | apply Kd.R_drewN | apply Kd.R_drew)); exact HO_3.out, by repeat (first | (with_reducible first | exact HB.out | apply below_alloc | apply pw_below_drewN | apply below_drew1) | exact HB.out)⟩
    · rw [if_neg c4] at H
      exact absurd H (by simp)
  · rw [if_neg c3] at H
    exact absurd H (by simp)

/-! ### croftref1_Fit: function 66 -/
def croftref1_Fit.f (a0 : Int) : Option (Int) := if a0 < 0 then (some 0) else (if a0 > 1048576 then (some 1048576) else (some a0))
set_option maxHeartbeats 8000000 in
set_option maxRecDepth 100000 in
theorem croftref1_Fit.calls (a0 : Int) (r : Int) (w : World) (h : croftref1_Fit.f a0 = some r) :
    Calls Try.prog 66 #[.int .i64 a0] w fun e w' => e = .returned (.int .i64 r) ∧ Drawn0 w w' := by
  have H : (if a0 < 0 then (some 0) else (if a0 > 1048576 then (some 1048576) else (some a0))) = some r := h
  clear h
  by_cases c2 : a0 < 0
  · rw [if_pos c2] at H
    have c2b0 : decide (a0 < 0) = true := decide_eq_true c2
    clear c2
    obtain rfl := Option.some.inj H
    go_enter Try.func66, Try.ntmps66
    go_wp2
    go_ret
    exact ⟨by first | rfl | (simp; done) | (simp [*]; done), by repeat (first | exact Drawn0.refl _ | apply Drawn0.step)⟩
  · rw [if_neg c2] at H
    have c2b0 : decide (a0 < 0) = false := decide_eq_false c2
    clear c2
    by_cases c3 : a0 > 1048576
    · rw [if_pos c3] at H
      have c3b0 : decide (1048576 < a0) = true := decide_eq_true c3
      clear c3
      obtain rfl := Option.some.inj H
      go_enter Try.func66, Try.ntmps66
      go_wp2
      go_ret
      exact ⟨by first | rfl | (simp; done) | (simp [*]; done), by repeat (first | exact Drawn0.refl _ | apply Drawn0.step)⟩
    · rw [if_neg c3] at H
      have c3b0 : decide (1048576 < a0) = false := decide_eq_false c3
      clear c3
      obtain rfl := Option.some.inj H
      go_enter Try.func66, Try.ntmps66
      go_wp2
      go_ret
      exact ⟨by first | rfl | (simp; done) | (simp [*]; done), by repeat (first | exact Drawn0.refl _ | apply Drawn0.step)⟩


end Go.Proofs.Ytccpoflhmooanaa.R
