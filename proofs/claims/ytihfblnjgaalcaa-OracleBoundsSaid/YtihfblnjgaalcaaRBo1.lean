import Derived.Test.YtihfblnjgaalcaaRBo0
namespace Go.Proofs.Ytihfblnjgaalcaa.R
open Go.RowKit Go.Proofs.YtihfblnjgaalcaaW.PrintWords Go.Proofs.YtihfblnjgaalcaaW.PrintLast Go.Proofs.YtihfblnjgaalcaaW.PrintMore
attribute [local go_sem] max2_int min2_int max_two min_two max_three min_three max_four min_four
set_option linter.unusedVariables false
set_option linter.unusedSimpArgs false

/-! ### croftref11_Product: function 36 -/
def croftref11_Product.f (a0 : Int) (a1 : Int) : Option (Int × Int) := if a0 = 0 then (some (IntKind.u64.wrap (a0 * a1), 0)) else (if a1 > (IntKind.u64.wrap (Int.tdiv (18446744073709551615 : Int) a0)) then (some (0, 3)) else (some (IntKind.u64.wrap (a0 * a1), 0)))
set_option maxHeartbeats 8000000 in
set_option maxRecDepth 100000 in
theorem croftref11_Product.calls (a0 : Int) (a1 : Int) (r1 : Int) (r2 : Int) (w : World) (h : croftref11_Product.f a0 a1 = some (r1, r2)) :
    Calls Try.prog 36 #[.int .u64 a0, .int .u64 a1] w fun e w' => e = .returned (.tuple #[.int .u64 r1, .int .i64 r2]) ∧ Drawn0 w w' := by
  have H : (if a0 = 0 then (some (IntKind.u64.wrap (a0 * a1), 0)) else (if a1 > (IntKind.u64.wrap (Int.tdiv (18446744073709551615 : Int) a0)) then (some (0, 3)) else (some (IntKind.u64.wrap (a0 * a1), 0)))) = some (r1, r2) := h
  clear h
  by_cases c3 : a0 = 0
  · rw [if_pos c3] at H
    have c3b0 : (a0 == 0) = true := beq_iff_eq.mpr c3
    have c3b1 : (a0 != 0) = false := bne_eq_false_iff_eq.mpr c3
    clear c3
    simp only [Option.some.injEq, Prod.mk.injEq] at H
    obtain ⟨rfl, rfl⟩ := H
    go_enter Try.func36, Try.ntmps36
    go_wp2
    go_ret2
    exact ⟨by first | rfl | (simp; done) | (simp [*]; done), by repeat (first | exact Drawn0.refl _ | apply Drawn0.step)⟩
  · rw [if_neg c3] at H
    have c3b0 : (a0 == 0) = false := beq_eq_false_iff_ne.mpr c3
    have c3b1 : (a0 != 0) = true := bne_iff_ne.mpr c3
    by_cases c4 : a1 > (IntKind.u64.wrap (Int.tdiv (18446744073709551615 : Int) a0))
    · rw [if_pos c4] at H
      have c4b0 : decide ((IntKind.u64.wrap (Int.tdiv (18446744073709551615 : Int) a0)) < a1) = true := decide_eq_true c4
      clear c4
      simp only [Option.some.injEq, Prod.mk.injEq] at H
      obtain ⟨rfl, rfl⟩ := H
      go_enter Try.func36, Try.ntmps36
      go_wp2
      go_ret2
      exact ⟨by first | rfl | (simp; done) | (simp [*]; done), by repeat (first | exact Drawn0.refl _ | apply Drawn0.step)⟩
    · rw [if_neg c4] at H
      have c4b0 : decide ((IntKind.u64.wrap (Int.tdiv (18446744073709551615 : Int) a0)) < a1) = false := decide_eq_false c4
      clear c4
      simp only [Option.some.injEq, Prod.mk.injEq] at H
      obtain ⟨rfl, rfl⟩ := H
      go_enter Try.func36, Try.ntmps36
      go_wp2
      go_ret2
      exact ⟨by first | rfl | (simp; done) | (simp [*]; done), by repeat (first | exact Drawn0.refl _ | apply Drawn0.step)⟩


/-! ### oracle_Bound: function 30 -/
def oracle_Bound.f (a0 : Int) : Option (Int × Int) := if a0 = 16 then (some (4096, 32)) else (some (mx a0 4096, 16))
set_option maxHeartbeats 8000000 in
set_option maxRecDepth 100000 in
theorem oracle_Bound.calls (a0 : Int) (r1 : Int) (r2 : Int) (w : World) (h : oracle_Bound.f a0 = some (r1, r2)) :
    Calls Try.prog 30 #[.int .u64 a0] w fun e w' => e = .returned (.tuple #[.int .u64 r1, .int .u64 r2]) ∧ Below w.heap.size w w' := by
  have HB := Aside0.mk (Below.refl w.heap.size w)
  have H : (if a0 = 16 then (some (4096, 32)) else (some (mx a0 4096, 16))) = some (r1, r2) := h
  clear h
  by_cases c2 : a0 = 16
  · rw [if_pos c2] at H
    have c2b0 : (a0 == 16) = true := beq_iff_eq.mpr c2
    have c2b1 : (a0 != 16) = false := bne_eq_false_iff_eq.mpr c2
    clear c2
    simp only [Option.some.injEq, Prod.mk.injEq] at H
    obtain ⟨rfl, rfl⟩ := H
    go_enter Try.func30, Try.ntmps30
    go_wp2
    go_ret2
    exact ⟨by first | rfl | (simp [errW_none, errW_some] <;> rfl) | (simp [*, errW_none, errW_some] <;> rfl), by repeat (first | (with_reducible first | exact HB.out | apply below_alloc | apply pw_below_drewN | apply below_drew1) | exact HB.out)⟩
  · rw [if_neg c2] at H
    have c2b0 : (a0 == 16) = false := beq_eq_false_iff_ne.mpr c2
    have c2b1 : (a0 != 16) = true := bne_iff_ne.mpr c2
    obtain ⟨ji3, hji3⟩ : ∃ j_ : Int, (mx a0 4096) = j_ := ⟨_, rfl⟩
    replace H : (some (ji3, 16)) = some (r1, r2) := by first | (rw [hji3] at H; exact H) | (simp only [hji3] at H ⊢; exact H)
    (try (have hji3l : 4096 ≤ ji3 := by (rw [← hji3]; unfold mx; (repeat' split) <;> omega)))
    (try (have hji3m : 0 ≤ ji3 := by omega))
    have hji3_ : (if a0 < 4096 then 4096 else a0) = ji3 := hji3
    simp only [Option.some.injEq, Prod.mk.injEq] at H
    obtain ⟨rfl, rfl⟩ := H
    go_enter Try.func30, Try.ntmps30
    go_wp2
    go_ret2
    exact ⟨by first | rfl | (simp [errW_none, errW_some] <;> rfl) | (simp only [← hji3]; first | rfl | (simp [errW_none, errW_some] <;> rfl)) | (simp [*, errW_none, errW_some] <;> rfl), by repeat (first | (with_reducible first | exact HB.out | apply below_alloc | apply pw_below_drewN | apply below_drew1) | exact HB.out)⟩

/-! ### croftref11_Bound: function 31 -/
def croftref11_Bound.f (a0 : Int) : Option (Int × Int) := if a0 < 4096 then (if a0 = 16 then (some (4096, 32)) else (some (4096, 16))) else (if a0 = 16 then (some (a0, 32)) else (some (a0, 16)))
set_option maxHeartbeats 8000000 in
set_option maxRecDepth 100000 in
theorem croftref11_Bound.calls (a0 : Int) (r1 : Int) (r2 : Int) (w : World) (h : croftref11_Bound.f a0 = some (r1, r2)) :
    Calls Try.prog 31 #[.int .u64 a0] w fun e w' => e = .returned (.tuple #[.int .u64 r1, .int .u64 r2]) ∧ Drawn0 w w' := by
  have H : (if a0 < 4096 then (if a0 = 16 then (some (4096, 32)) else (some (4096, 16))) else (if a0 = 16 then (some (a0, 32)) else (some (a0, 16)))) = some (r1, r2) := h
  clear h
  by_cases c2 : a0 < 4096
  · rw [if_pos c2] at H
    have c2b0 : decide (a0 < 4096) = true := decide_eq_true c2
    clear c2
    by_cases c3 : a0 = 16
    · rw [if_pos c3] at H
      have c3b0 : (a0 == 16) = true := beq_iff_eq.mpr c3
      have c3b1 : (a0 != 16) = false := bne_eq_false_iff_eq.mpr c3
      clear c3
      simp only [Option.some.injEq, Prod.mk.injEq] at H
      obtain ⟨rfl, rfl⟩ := H
      go_enter Try.func31, Try.ntmps31
      go_wp2
      go_ret2
      exact ⟨by first | rfl | (simp; done) | (simp [*]; done), by repeat (first | exact Drawn0.refl _ | apply Drawn0.step)⟩
    · rw [if_neg c3] at H
      have c3b0 : (a0 == 16) = false := beq_eq_false_iff_ne.mpr c3
      have c3b1 : (a0 != 16) = true := bne_iff_ne.mpr c3
      simp only [Option.some.injEq, Prod.mk.injEq] at H
      obtain ⟨rfl, rfl⟩ := H
      go_enter Try.func31, Try.ntmps31
      go_wp2
      go_ret2
      exact ⟨by first | rfl | (simp; done) | (simp [*]; done), by repeat (first | exact Drawn0.refl _ | apply Drawn0.step)⟩
  · rw [if_neg c2] at H
    have c2b0 : decide (a0 < 4096) = false := decide_eq_false c2
    clear c2
    by_cases c4 : a0 = 16
    · rw [if_pos c4] at H
      have c4b0 : (a0 == 16) = true := beq_iff_eq.mpr c4
      have c4b1 : (a0 != 16) = false := bne_eq_false_iff_eq.mpr c4
      clear c4
      simp only [Option.some.injEq, Prod.mk.injEq] at H
      obtain ⟨rfl, rfl⟩ := H
      go_enter Try.func31, Try.ntmps31
      go_wp2
      go_ret2
      exact ⟨by first | rfl | (simp; done) | (simp [*]; done), by repeat (first | exact Drawn0.refl _ | apply Drawn0.step)⟩
    · rw [if_neg c4] at H
      have c4b0 : (a0 == 16) = false := beq_eq_false_iff_ne.mpr c4
      have c4b1 : (a0 != 16) = true := bne_iff_ne.mpr c4
      simp only [Option.some.injEq, Prod.mk.injEq] at H
      obtain ⟨rfl, rfl⟩ := H
      go_enter Try.func31, Try.ntmps31
      go_wp2
      go_ret2
      exact ⟨by first | rfl | (simp; done) | (simp [*]; done), by repeat (first | exact Drawn0.refl _ | apply Drawn0.step)⟩

/-! ### croftref11_Total: function 32 -/
def croftref11_Total.l0 : Nat → List (S49) → Int → Int → Option (Int)
  | 0, _, _, _ => none
  | k + 1, x0, x3, x4 => if x4 < (x0.length : Int) then (if 0 ≤ x4 then (croftref11_Total.l0 k x0 (IntKind.u64.wrap (x3 + ((rd_T49 x0 x4).f1))) (wrap64 (x4 + 1))) else (none)) else (some x3)
def croftref11_Total.f (k : Nat) (l0 : List (S49)) : Option (Int) := croftref11_Total.l0 k l0 0 0
theorem croftref11_Total.mono_l : ∀ k, (∀ y0 y1 y2, LeO (croftref11_Total.l0 k y0 y1 y2) (croftref11_Total.l0 (k + 1) y0 y1 y2))
  | 0 => fun _ _ _ r h => by simp [croftref11_Total.l0] at h
  | k + 1 => by
    have ih0 := croftref11_Total.mono_l k
    · intro y0 y1 y2
      unfold croftref11_Total.l0
      repeat' first
      | (with_reducible exact ih0 _ _ _)
      | (with_reducible exact LeO.refl _)
      | (with_reducible exact LeO.none _)
      | (with_reducible refine LeO.ite ?_ ?_)
      | (with_reducible refine LeO.bind ?_ (fun _ => ?_))
      | exact ih0 _ _ _
      | exact LeO.none _
      | refine LeO.ite ?_ ?_
      | refine LeO.bind ?_ (fun _ => ?_)
theorem croftref11_Total.mono : ∀ a0 k, LeO (croftref11_Total.f k a0) (croftref11_Total.f (k + 1) a0) := by
  intro a0 k
  have ih0 := croftref11_Total.mono_l k
  unfold croftref11_Total.f
  repeat' first
      | (with_reducible exact ih0 _ _ _)
      | (with_reducible exact LeO.refl _)
      | (with_reducible exact LeO.none _)
      | (with_reducible refine LeO.ite ?_ ?_)
      | (with_reducible refine LeO.bind ?_ (fun _ => ?_))
      | exact ih0 _ _ _
      | exact LeO.none _
      | refine LeO.ite ?_ ?_
      | refine LeO.bind ?_ (fun _ => ?_)
set_option maxHeartbeats 8000000 in
set_option maxRecDepth 100000 in
theorem croftref11_Total.calls (k : Nat) (A0 : Option Addr) (c0 : Nat) (l0 : List (S49)) (r : Int) (w : World) (hr0 : Kd.C k49 w A0 l0.length l0) (hc0 : l0.length ≤ c0) (h : croftref11_Total.f k l0 = some r) :
    Calls Try.prog 32 #[.slice A0 l0.length c0] w fun e w' => e = .returned (.int .u64 r) ∧ Drawn0 w w' := by
  have HR0 := Aside0.mk hr0
  have HC0 := Aside0.mk hc0
  clear hr0 hc0
  have H : (croftref11_Total.l0 k l0 0 0) = some r := h
  clear h
  have H' := Aside0.mk H
  clear H
  go_enter Try.func32, Try.ntmps32
  go_wp2
  go_loopg [3, 4] k (fun kq v3 v4 w' => ∃ (x3_1 : Int) (x4_1 : Int), v3 = .int .u64 x3_1 ∧ v4 = .int .i64 x4_1 ∧ Aside0 (croftref11_Total.l0 kq l0 x3_1 x4_1 = some r) ∧ Aside0 (kq ≤ k) ∧ Drawn0 w w')
  case atStart => exact ⟨(0), (0), (by first | rfl | (simp; done) | (simp [*]; done)), (by first | rfl | (simp; done) | (simp [*]; done)), H', ⟨Nat.le_refl _⟩, by repeat (first | exact Drawn0.refl _ | apply Drawn0.step)⟩
  case round =>
    clear H'
    obtain ⟨x3_1, x4_1, rfl, rfl, HA, HK1, ⟨m1, rfl⟩⟩ := hrel
    cases gk with
    | zero => exact absurd HA.out (by simp [croftref11_Total.l0])
    | succ k1 =>
      have H := HA.out
      clear HA
      simp only [croftref11_Total.l0] at H
      by_cases c2 : x4_1 < (l0.length : Int)
      · rw [if_pos c2] at H
        have c2b0 : decide (x4_1 < (l0.length : Int)) = true := decide_eq_true c2
        clear c2
        by_cases c3 : 0 ≤ x4_1
        · rw [if_pos c3] at H
          have c3b0 : decide (0 ≤ x4_1) = true := decide_eq_true c3
          clear c3
          have H' := Aside0.mk H
          clear H
          have p164 : 0 ≤ (x4_1 : Int) := of_decide_eq_true (by first | (with_reducible assumption) | assumption)
          have q164 : x4_1 < (l0.length : Int) := of_decide_eq_true (by first | (with_reducible assumption) | assumption)
          obtain ⟨ad164, e164, hx164_0, hx164_1⟩ := at_T49 HR0.out x4_1 p164 q164
          cases e164
          replace p164 := eq_true p164
          replace q164 := eq_true q164
          go_wp2
          go_roundg k1
          case measure => have := HK1.out; omega
          case rel => exact ⟨(IntKind.u64.wrap (x3_1 + ((rd_T49 l0 x4_1).f1))), (wrap64 (x4_1 + 1)), (by first | rfl | (simp; done) | (simp [*]; done)), (by first | rfl | (simp; done) | (simp [*]; done)), H', ⟨by have := HK1.out; omega⟩, by repeat (first | exact Drawn0.refl _ | apply Drawn0.step)⟩
        · rw [if_neg c3] at H
          exact absurd H (by simp)
      · rw [if_neg c2] at H
        have c2b0 : decide (x4_1 < (l0.length : Int)) = false := decide_eq_false c2
        clear c2
        obtain rfl := Option.some.inj H
        go_wp2
        go_ret
        exact ⟨by first | rfl | (simp; done) | (simp [*]; done), by repeat (first | exact Drawn0.refl _ | apply Drawn0.step)⟩

/-! ### croftlaw11_OracleBounds: function 10 -/
mutual
def croftlaw11_OracleBounds.j0 : Nat → Int → Int → Bool → Int → Int → Int → Int → List (S49) → Int → Bool → Option (Bool)
  | 0, _, _, _, _, _, _, _, _, _, _ => none
  | k + 1, x3, x4, x32, x166000, x166001, x166002, x166003, x166004, x166005, x166006 => if x32 = true then (some false) else ((croftlaw11_blocks.f k x166004).bind fun t171 => ((croftlaw11_config.f x166000 x166001 x166002).bind fun bt174 => (if 0 ≤ (x166004.length : Int) then (if (x166004.length : Int) ≤ (t171.length : Int) then ((oracle_NoFit.f bt174.1 bt174.2.1 bt174.2.2 x166003 (t171.take ((x166004.length : Int) : Int).toNat) x166005).bind fun t181 => (if t181 = true then ((croftref11_R.f x166000 x166001 x166002).bind fun t182 => ((croftref11_Total.f k x166004).bind fun t183 => (if (IntKind.u64.wrap (x3 * t183)) < (IntKind.u64.wrap (x4 * (IntKind.u64.wrap ((IntKind.u64.wrap (x166003)) * t182)))) then (some false) else (croftlaw11_OracleBounds.l0 k x3 (IntKind.u64.wrap ((IntKind.u64.wrap (x166003)) * t182)) t183 0 x166000 x166001 x166002 x166003 x166004 x166005 x166006)))) else (some true))) else (none)) else (none))))
def croftlaw11_OracleBounds.l0 : Nat → Int → Int → Int → Int → Int → Int → Int → Int → List (S49) → Int → Bool → Option (Bool)
  | 0, _, _, _, _, _, _, _, _, _, _, _ => none
  | k + 1, x3, x8, x9, x10, x166000, x166001, x166002, x166003, x166004, x166005, x166006 => if x10 < (x166004.length : Int) then (if 0 ≤ x10 then (if ((rd_T49 x166004 x10).f1) < 4096 then (some true) else (croftlaw11_OracleBounds.l0 k x3 x8 x9 (wrap64 (x10 + 1)) x166000 x166001 x166002 x166003 x166004 x166005 x166006)) else (none)) else (some (decide ((IntKind.u64.wrap (x3 * x9)) ≥ (IntKind.u64.wrap (4096 * x8)))))
end
def croftlaw11_OracleBounds.f (k : Nat) (a0_0 : Int) (a0_1 : Int) (a0_2 : Int) (a0_3 : Int) (l0_4 : List (S49)) (a0_5 : Int) (a0_6 : Bool) : Option (Bool) := (croftlaw11_awake.f k).bind fun t166 => (if t166 = true then ((oracle_Bound.f a0_5).bind fun bt167 => ((croftref11_Bound.f a0_5).bind fun bt169 => (if bt167.1 = bt169.1 then (croftlaw11_OracleBounds.j0 k bt167.1 bt167.2 (bt167.2 != bt169.2) a0_0 a0_1 a0_2 a0_3 l0_4 a0_5 a0_6) else (croftlaw11_OracleBounds.j0 k bt167.1 bt167.2 true a0_0 a0_1 a0_2 a0_3 l0_4 a0_5 a0_6)))) else (some false))
theorem croftlaw11_OracleBounds.mono_l : ∀ k, (∀ y0 y1 y2 y3 y4 y5 y6 y7 y8 y9, LeO (croftlaw11_OracleBounds.j0 k y0 y1 y2 y3 y4 y5 y6 y7 y8 y9) (croftlaw11_OracleBounds.j0 (k + 1) y0 y1 y2 y3 y4 y5 y6 y7 y8 y9)) ∧ (∀ y0 y1 y2 y3 y4 y5 y6 y7 y8 y9 y10, LeO (croftlaw11_OracleBounds.l0 k y0 y1 y2 y3 y4 y5 y6 y7 y8 y9 y10) (croftlaw11_OracleBounds.l0 (k + 1) y0 y1 y2 y3 y4 y5 y6 y7 y8 y9 y10))
  | 0 => ⟨fun _ _ _ _ _ _ _ _ _ _ r h => by simp [croftlaw11_OracleBounds.j0] at h, fun _ _ _ _ _ _ _ _ _ _ _ r h => by simp [croftlaw11_OracleBounds.l0] at h⟩
  | k + 1 => by
    obtain ⟨ih0, ih1⟩ := croftlaw11_OracleBounds.mono_l k
    refine ⟨?_, ?_⟩
    · intro y0 y1 y2 y3 y4 y5 y6 y7 y8 y9
      unfold croftlaw11_OracleBounds.j0
      repeat' first
      | (with_reducible exact ih0 _ _ _ _ _ _ _ _ _ _)
      | (with_reducible exact ih1 _ _ _ _ _ _ _ _ _ _ _)
      | (with_reducible exact croftlaw11_awake.mono _)
      | (with_reducible exact croftlaw11_blocks.mono _ _)
      | (with_reducible exact croftref11_Total.mono _ _)
      | (with_reducible exact LeO.refl _)
      | (with_reducible exact LeO.none _)
      | (with_reducible refine LeO.ite ?_ ?_)
      | (with_reducible refine LeO.bind ?_ (fun _ => ?_))
      | exact ih0 _ _ _ _ _ _ _ _ _ _
      | exact ih1 _ _ _ _ _ _ _ _ _ _ _
      | exact croftlaw11_awake.mono _
      | exact croftlaw11_blocks.mono _ _
      | exact croftref11_Total.mono _ _
      | exact LeO.none _
      | refine LeO.ite ?_ ?_
      | refine LeO.bind ?_ (fun _ => ?_)
    · intro y0 y1 y2 y3 y4 y5 y6 y7 y8 y9 y10
      unfold croftlaw11_OracleBounds.l0
      repeat' first
      | (with_reducible exact ih0 _ _ _ _ _ _ _ _ _ _)
      | (with_reducible exact ih1 _ _ _ _ _ _ _ _ _ _ _)
      | (with_reducible exact croftlaw11_awake.mono _)
      | (with_reducible exact croftlaw11_blocks.mono _ _)
      | (with_reducible exact croftref11_Total.mono _ _)
      | (with_reducible exact LeO.refl _)
      | (with_reducible exact LeO.none _)
      | (with_reducible refine LeO.ite ?_ ?_)
      | (with_reducible refine LeO.bind ?_ (fun _ => ?_))
      | exact ih0 _ _ _ _ _ _ _ _ _ _
      | exact ih1 _ _ _ _ _ _ _ _ _ _ _
      | exact croftlaw11_awake.mono _
      | exact croftlaw11_blocks.mono _ _
      | exact croftref11_Total.mono _ _
      | exact LeO.none _
      | refine LeO.ite ?_ ?_
      | refine LeO.bind ?_ (fun _ => ?_)
theorem croftlaw11_OracleBounds.mono : ∀ a0 a1 a2 a3 a4 a5 a6 k, LeO (croftlaw11_OracleBounds.f k a0 a1 a2 a3 a4 a5 a6) (croftlaw11_OracleBounds.f (k + 1) a0 a1 a2 a3 a4 a5 a6) := by
  intro a0 a1 a2 a3 a4 a5 a6 k
  obtain ⟨ih0, ih1⟩ := croftlaw11_OracleBounds.mono_l k
  unfold croftlaw11_OracleBounds.f
  repeat' first
      | (with_reducible exact ih0 _ _ _ _ _ _ _ _ _ _)
      | (with_reducible exact ih1 _ _ _ _ _ _ _ _ _ _ _)
      | (with_reducible exact croftlaw11_awake.mono _)
      | (with_reducible exact croftlaw11_blocks.mono _ _)
      | (with_reducible exact croftref11_Total.mono _ _)
      | (with_reducible exact LeO.refl _)
      | (with_reducible exact LeO.none _)
      | (with_reducible refine LeO.ite ?_ ?_)
      | (with_reducible refine LeO.bind ?_ (fun _ => ?_))
      | exact ih0 _ _ _ _ _ _ _ _ _ _
      | exact ih1 _ _ _ _ _ _ _ _ _ _ _
      | exact croftlaw11_awake.mono _
      | exact croftlaw11_blocks.mono _ _
      | exact croftref11_Total.mono _ _
      | exact LeO.none _
      | refine LeO.ite ?_ ?_
      | refine LeO.bind ?_ (fun _ => ?_)
def croftlaw11_OracleBounds.T8 : Bool × List (List Nat × List Nat) := (true, [([], []), ([0], [0]), ([1], [1]), ([], []), ([3], [3]), ([], []), ([], []), ([6], [6]), ([7], [7]), ([5, 8], [5, 8]), ([], []), ([10], [10]), ([2, 4, 9, 11, 2], [2, 4, 9, 11]), ([12], [12])])
def croftlaw11_OracleBounds.B8 : List Nat := [0, 1, 3, 0, 8, 0, 0, 64, 192, 480, 0, 1024, 4095, 8191]
theorem croftlaw11_OracleBounds.tab8 : rtab .any (opsOf Try.f10 8) = croftlaw11_OracleBounds.T8 := by kernel_rfl
theorem croftlaw11_OracleBounds.bits8 : waitsOk croftlaw11_OracleBounds.T8.2 croftlaw11_OracleBounds.B8 = true := by kernel_rfl
def croftlaw11_OracleBounds.T10 : Bool × List (List Nat × List Nat) := (true, [([], []), ([0], [0]), ([1], [1]), ([], []), ([3], [3]), ([4], [4]), ([2, 5], [2, 5]), ([6, 5, 0, 1, 2, 3, 4, 5, 6], [6])])
def croftlaw11_OracleBounds.B10 : List Nat := [0, 1, 3, 0, 8, 24, 63, 127]
theorem croftlaw11_OracleBounds.tab10 : rtab .any (opsOf Try.f10 10) = croftlaw11_OracleBounds.T10 := by kernel_rfl
theorem croftlaw11_OracleBounds.bits10 : waitsOk croftlaw11_OracleBounds.T10.2 croftlaw11_OracleBounds.B10 = true := by kernel_rfl
set_option maxHeartbeats 8000000 in
set_option maxRecDepth 100000 in
theorem croftlaw11_OracleBounds.calls (k : Nat) (a0_0 : Int) (a0_1 : Int) (a0_2 : Int) (a0_3 : Int) (A0_4 : Option Addr) (c0_4 : Nat) (l0_4 : List (S49)) (a0_5 : Int) (a0_6 : Bool) (r : Bool) (w : World) (hr0_4 : Kd.C k49 w A0_4 l0_4.length l0_4) (hc0_4 : l0_4.length ≤ c0_4) (h : croftlaw11_OracleBounds.f k a0_0 a0_1 a0_2 a0_3 l0_4 a0_5 a0_6 = some r) :
    Calls Try.prog 10 #[.agg #[.int .u64 a0_0, .int .i64 a0_1, .int .i64 a0_2, .int .i64 a0_3, .slice A0_4 l0_4.length c0_4, .int .u64 a0_5, .bool a0_6]] w fun e w' => e = .returned (.bool r) ∧ Below w.heap.size w w' := by
  have hu44 := Try.underlying44
  have hu24 := Try.underlying24
  have HR0_4 := Aside0.mk hr0_4
  have HC0_4 := Aside0.mk hc0_4
  clear hr0_4 hc0_4
  have HB := Aside0.mk (Below.refl w.heap.size w)
  have H : ((croftlaw11_awake.f k).bind fun t166 => (if t166 = true then ((oracle_Bound.f a0_5).bind fun bt167 => ((croftref11_Bound.f a0_5).bind fun bt169 => (if bt167.1 = bt169.1 then (croftlaw11_OracleBounds.j0 k bt167.1 bt167.2 (bt167.2 != bt169.2) a0_0 a0_1 a0_2 a0_3 l0_4 a0_5 a0_6) else (croftlaw11_OracleBounds.j0 k bt167.1 bt167.2 true a0_0 a0_1 a0_2 a0_3 l0_4 a0_5 a0_6)))) else (some false))) = some r := h
  clear h
  replace H := Option.bind_eq_some_iff.mp H
  obtain ⟨t166, A20, H⟩ := H
  replace H : (if t166 = true then ((oracle_Bound.f a0_5).bind fun bt167 => ((croftref11_Bound.f a0_5).bind fun bt169 => (if bt167.1 = bt169.1 then (croftlaw11_OracleBounds.j0 k bt167.1 bt167.2 (bt167.2 != bt169.2) a0_0 a0_1 a0_2 a0_3 l0_4 a0_5 a0_6) else (croftlaw11_OracleBounds.j0 k bt167.1 bt167.2 true a0_0 a0_1 a0_2 a0_3 l0_4 a0_5 a0_6)))) else (some false)) = some r := H
  have A2 := Aside0.mk A20
  clear A20
  by_cases c3 : t166 = true
  · subst c3
    have H1 : ((oracle_Bound.f a0_5).bind fun bt167 => ((croftref11_Bound.f a0_5).bind fun bt169 => (if bt167.1 = bt169.1 then (croftlaw11_OracleBounds.j0 k bt167.1 bt167.2 (bt167.2 != bt169.2) a0_0 a0_1 a0_2 a0_3 l0_4 a0_5 a0_6) else (croftlaw11_OracleBounds.j0 k bt167.1 bt167.2 true a0_0 a0_1 a0_2 a0_3 l0_4 a0_5 a0_6)))) = some r := by rw [if_pos rfl] at H; exact H
    clear H
    have H := H1
    clear H1
    replace H := Option.bind_eq_some_iff.mp H
    obtain ⟨⟨t167, t168⟩, A40, H⟩ := H
    replace H : ((croftref11_Bound.f a0_5).bind fun bt169 => (if t167 = bt169.1 then (croftlaw11_OracleBounds.j0 k t167 t168 (t168 != bt169.2) a0_0 a0_1 a0_2 a0_3 l0_4 a0_5 a0_6) else (croftlaw11_OracleBounds.j0 k t167 t168 true a0_0 a0_1 a0_2 a0_3 l0_4 a0_5 a0_6))) = some r := H
    have A4 := Aside0.mk A40
    clear A40
    replace H := Option.bind_eq_some_iff.mp H
    obtain ⟨⟨t169, t170⟩, A50, H⟩ := H
    replace H : (if t167 = t169 then (croftlaw11_OracleBounds.j0 k t167 t168 (t168 != t170) a0_0 a0_1 a0_2 a0_3 l0_4 a0_5 a0_6) else (croftlaw11_OracleBounds.j0 k t167 t168 true a0_0 a0_1 a0_2 a0_3 l0_4 a0_5 a0_6)) = some r := H
    have A5 := Aside0.mk A50
    clear A50
    have HC6 := Aside0.mk H
    clear H
    go_enter Try.func10, Try.ntmps10
    go_upto_region 5 with (first | ((with_reducible refine gate_dst (N := 1) rfl ?_); refine box_event ?hg (N := 1) ?hd (cs := #[.int .u64 a0_0, .int .i64 a0_1, .int .i64 a0_2, .int .i64 a0_3, .slice A0_4 l0_4.length c0_4, .int .u64 a0_5, .bool a0_6]) (t := 44) ?hr ?_; (case hd => rfl); (case hg => rfl); (case hr => first | (go_simp; done) | (go_simp; rfl)); intro gb165 hg w7 hbox hb; have n0_ := Aside0.mk (below_step (by repeat (first | (with_reducible first | exact HB.out | apply below_alloc | apply pw_below_drewN | apply below_drew1) | exact HB.out)) hb); have n1_ := Aside0.mk (hbox); have n2_ := Aside0.mk ((by rw [hg]; exact (below_size (by repeat (first | (with_reducible first | exact HB.out | apply below_alloc | apply pw_below_drewN | apply below_drew1) | exact HB.out))) : w.heap.size ≤ gb165)); have n3_ := Aside0.mk ((by rw [hg]; exact (below_size (by repeat (first | (with_reducible first | exact HB.out | apply below_alloc | apply pw_below_drewN | apply below_drew1) | exact HB.out))) : w.heap.size ≤ gb165)); clear HB; have HB := n0_; have BK165 := n1_; have GW165 := n2_; have GE165 := n3_; clear n0_ n1_ n2_ n3_; clear hb hbox hg) | ((with_reducible refine gate_callee (f := 18) rfl ?_); refine goesL_ (some 11) rfl rfl Try.func18 (by kernel_rfl) rfl #[] rfl (by (try simp only [List.map_toArray, List.map_cons, List.map_nil]); first | done | rfl | (simp only [List.length_drop, List.length_take]; rfl)) ?_; (with_reducible refine (croftlaw11_awake.calls k  true _ A2.out).mono ?_); rintro e w8 ⟨rfl, hb⟩; refine ⟨_, rfl, ?_⟩; have n0_ := Aside0.mk (blk_below (g := gb165) (o := .cells #[.int .u64 a0_0, .int .i64 a0_1, .int .i64 a0_2, .int .i64 a0_3, .slice A0_4 l0_4.length c0_4, .int .u64 a0_5, .bool a0_6] 44 (0, 0)) (by (with_reducible repeat (first | refine blk_drewN ?_ _ | refine blk_drew ?_ | refine blk_alloc ?_ _)); exact BK165.out) hb); have n1_ := Aside0.mk (below_step (by repeat (first | (with_reducible first | exact HB.out | apply below_alloc | apply pw_below_drewN | apply below_drew1 | refine below_set ?_ GE165.out) | exact HB.out)) hb); clear BK165; clear HB; have BK165 := n0_; have HB := n1_; clear n0_ n1_; (try clear hb); (try clear hb2); (try clear hk); (try clear hi); have hcz9_0 : w8.cell? ⟨gb165, 0, none⟩ = some (.int .u64 a0_0) := (blk_cell BK165.out 0).trans rfl; have hcz9_1 : w8.cell? ⟨gb165, 1, none⟩ = some (.int .i64 a0_1) := (blk_cell BK165.out 1).trans rfl; have hcz9_2 : w8.cell? ⟨gb165, 2, none⟩ = some (.int .i64 a0_2) := (blk_cell BK165.out 2).trans rfl; have hcz9_3 : w8.cell? ⟨gb165, 3, none⟩ = some (.int .i64 a0_3) := (blk_cell BK165.out 3).trans rfl; have hcz9_4 : w8.cell? ⟨gb165, 4, none⟩ = some (.slice A0_4 l0_4.length c0_4) := (blk_cell BK165.out 4).trans rfl; have hcz9_5 : w8.cell? ⟨gb165, 5, none⟩ = some (.int .u64 a0_5) := (blk_cell BK165.out 5).trans rfl; have hcz9_6 : w8.cell? ⟨gb165, 6, none⟩ = some (.bool a0_6) := (blk_cell BK165.out 6).trans rfl; have hfz9_0 := blk_frozen BK165.out 0; have hfz9_1 := blk_frozen BK165.out 1; have hfz9_2 := blk_frozen BK165.out 2; have hfz9_3 := blk_frozen BK165.out 3; have hfz9_4 := blk_frozen BK165.out 4; have hfz9_5 := blk_frozen BK165.out 5; have hfz9_6 := blk_frozen BK165.out 6) | ((with_reducible refine gate_callee (f := 30) rfl ?_); refine goesL_ (some 16) rfl rfl Try.func30 (by kernel_rfl) rfl #[.int .u64 a0_5] rfl (by (try simp only [List.map_toArray, List.map_cons, List.map_nil]); first | done | rfl | (simp only [List.length_drop, List.length_take]; rfl)) ?_; (with_reducible refine (oracle_Bound.calls a0_5 t167 t168 _ A4.out).mono ?_); rintro e w10 ⟨rfl, hb⟩; refine ⟨_, rfl, ?_⟩; have n0_ := Aside0.mk (blk_below (g := gb165) (o := .cells #[.int .u64 a0_0, .int .i64 a0_1, .int .i64 a0_2, .int .i64 a0_3, .slice A0_4 l0_4.length c0_4, .int .u64 a0_5, .bool a0_6] 44 (0, 0)) (by (with_reducible repeat (first | refine blk_drewN ?_ _ | refine blk_drew ?_ | refine blk_alloc ?_ _)); exact BK165.out) hb); have n1_ := Aside0.mk (below_step (by repeat (first | (with_reducible first | exact HB.out | apply below_alloc | apply pw_below_drewN | apply below_drew1 | refine below_set ?_ GE165.out) | exact HB.out)) hb); clear BK165; clear HB; have BK165 := n0_; have HB := n1_; clear n0_ n1_; (try clear hb); (try clear hb2); (try clear hk); (try clear hi); have hcz11_0 : w10.cell? ⟨gb165, 0, none⟩ = some (.int .u64 a0_0) := (blk_cell BK165.out 0).trans rfl; have hcz11_1 : w10.cell? ⟨gb165, 1, none⟩ = some (.int .i64 a0_1) := (blk_cell BK165.out 1).trans rfl; have hcz11_2 : w10.cell? ⟨gb165, 2, none⟩ = some (.int .i64 a0_2) := (blk_cell BK165.out 2).trans rfl; have hcz11_3 : w10.cell? ⟨gb165, 3, none⟩ = some (.int .i64 a0_3) := (blk_cell BK165.out 3).trans rfl; have hcz11_4 : w10.cell? ⟨gb165, 4, none⟩ = some (.slice A0_4 l0_4.length c0_4) := (blk_cell BK165.out 4).trans rfl; have hcz11_5 : w10.cell? ⟨gb165, 5, none⟩ = some (.int .u64 a0_5) := (blk_cell BK165.out 5).trans rfl; have hcz11_6 : w10.cell? ⟨gb165, 6, none⟩ = some (.bool a0_6) := (blk_cell BK165.out 6).trans rfl; have hfz11_0 := blk_frozen BK165.out 0; have hfz11_1 := blk_frozen BK165.out 1; have hfz11_2 := blk_frozen BK165.out 2; have hfz11_3 := blk_frozen BK165.out 3; have hfz11_4 := blk_frozen BK165.out 4; have hfz11_5 := blk_frozen BK165.out 5; have hfz11_6 := blk_frozen BK165.out 6) | ((with_reducible refine gate_callee (f := 31) rfl ?_); refine goesL_ (some 22) rfl rfl Try.func31 (by kernel_rfl) rfl #[.int .u64 a0_5] rfl (by (try simp only [List.map_toArray, List.map_cons, List.map_nil]); first | done | rfl | (simp only [List.length_drop, List.length_take]; rfl)) ?_; (with_reducible refine (croftref11_Bound.calls a0_5 t169 t170 _ A5.out).mono ?_); rintro e w' ⟨rfl, ⟨nd, rfl⟩⟩; refine ⟨_, rfl, ?_⟩))
    (try simp only [Act.put, List.setIfInBounds_toArray, List.set_cons_zero, List.set_cons_succ])
    go_cut [32] (fun v32 wc => ∃ (kq : Nat) (x32_5 : Bool), v32 = .bool x32_5 ∧ Aside0 (croftlaw11_OracleBounds.j0 kq t167 t168 x32_5 a0_0 a0_1 a0_2 a0_3 l0_4 a0_5 a0_6 = some r) ∧ Aside0 (kq ≤ k) ∧ Aside0 (wc.heap[gb165]? = some (.cells #[.int .u64 a0_0, .int .i64 a0_1, .int .i64 a0_2, .int .i64 a0_3, (.slice A0_4 l0_4.length c0_4), .int .u64 a0_5, .bool a0_6] 44 (0, 0))) ∧ Aside0 (Below w.heap.size w wc))
    case first =>
      have H := HC6.out
      clear HC6
      by_cases c12 : t167 = t169
      · rw [if_pos c12] at H
        have c12b0 : (t167 == t169) = true := beq_iff_eq.mpr c12
        have c12b1 : (t167 != t169) = false := bne_eq_false_iff_eq.mpr c12
        clear c12
        (first | rw [c12b0] | (simp only [i64_w, i32_w]; rw [c12b0]) | skip)
        have H' := Aside0.mk H
        clear H
        go_wp2
        go_meet
        case rel => exact ⟨_, ((t168 != t170)), (by first | rfl | (simp; done) | (simp [*]; done)), H', ⟨by first | omega | exact Nat.le_refl _⟩, ⟨by (with_reducible repeat (first | refine blk_drewN ?_ _ | refine blk_drew ?_ | refine blk_alloc ?_ _)); exact BK165.out⟩, ⟨by repeat (first | (with_reducible first | exact HB.out | apply below_alloc | apply pw_below_drewN | apply below_drew1 | refine below_set ?_ GE165.out) | exact HB.out)⟩⟩
      · rw [if_neg c12] at H
        have c12b0 : (t167 == t169) = false := beq_eq_false_iff_ne.mpr c12
        have c12b1 : (t167 != t169) = true := bne_iff_ne.mpr c12
        (first | rw [c12b0] | (simp only [i64_w, i32_w]; rw [c12b0]) | skip)
        have H' := Aside0.mk H
        clear H
        go_wp2
        go_meet
        case rel => exact ⟨_, (true), (by first | rfl | (simp; done) | (simp [*]; done)), H', ⟨by first | omega | exact Nat.le_refl _⟩, ⟨by (with_reducible repeat (first | refine blk_drewN ?_ _ | refine blk_drew ?_ | refine blk_alloc ?_ _)); exact BK165.out⟩, ⟨by repeat (first | (with_reducible first | exact HB.out | apply below_alloc | apply pw_below_drewN | apply below_drew1 | refine below_set ?_ GE165.out) | exact HB.out)⟩⟩
    case rest =>
      clear HC6
      try clear c1
      try clear p2
      try clear c3
      try clear c10
      try clear c12
      try clear c12b0
      try clear c12b1
      try clear hcz11_0
      try clear hcz11_1
      try clear hcz11_2
      try clear hcz11_3
      try clear hcz11_4
      try clear hcz11_5
      try clear hcz11_6
      try clear hcz9_0
      try clear hcz9_1
      try clear hcz9_2
      try clear hcz9_3
      try clear hcz9_4
      try clear hcz9_5
      try clear hcz9_6
      try clear hfz11_0
      try clear hfz11_1
      try clear hfz11_2
      try clear hfz11_3
      try clear hfz11_4
      try clear hfz11_5
      try clear hfz11_6
      try clear hfz9_0
      try clear hfz9_1
      try clear hfz9_2
      try clear hfz9_3
      try clear hfz9_4
      try clear hfz9_5
      try clear hfz9_6
      obtain ⟨kq, x32_5, rfl, HA, HJ5, BK165, HB⟩ := hcut
      cases kq with
      | zero => exact absurd HA.out (by simp [croftlaw11_OracleBounds.j0])
      | succ kj5 =>
        have H := HA.out
        clear HA
        simp only [croftlaw11_OracleBounds.j0] at H
        by_cases c13 : x32_5 = true
        · subst c13
          have H1 : (some false) = some r := by rw [if_pos rfl] at H; exact H
          clear H
          have H := H1
          clear H1
          obtain rfl := Option.some.inj H
          go_wp2
          go_ret
          exact ⟨by first | rfl | (simp [errW_none, errW_some] <;> rfl) | (simp [*, errW_none, errW_some] <;> rfl), by repeat (first | (with_reducible first | exact HB.out | apply below_alloc | apply pw_below_drewN | apply below_drew1 | refine below_set ?_ GE165.out) | exact HB.out)⟩
        · replace c13 := Bool.eq_false_iff.mpr c13
          subst c13
          have H1 : ((croftlaw11_blocks.f kj5 l0_4).bind fun t171 => ((croftlaw11_config.f a0_0 a0_1 a0_2).bind fun bt174 => (if 0 ≤ (l0_4.length : Int) then (if (l0_4.length : Int) ≤ (t171.length : Int) then ((oracle_NoFit.f bt174.1 bt174.2.1 bt174.2.2 a0_3 (t171.take ((l0_4.length : Int) : Int).toNat) a0_5).bind fun t181 => (if t181 = true then ((croftref11_R.f a0_0 a0_1 a0_2).bind fun t182 => ((croftref11_Total.f kj5 l0_4).bind fun t183 => (if (IntKind.u64.wrap (t167 * t183)) < (IntKind.u64.wrap (t168 * (IntKind.u64.wrap ((IntKind.u64.wrap (a0_3)) * t182)))) then (some false) else (croftlaw11_OracleBounds.l0 kj5 t167 (IntKind.u64.wrap ((IntKind.u64.wrap (a0_3)) * t182)) t183 0 a0_0 a0_1 a0_2 a0_3 l0_4 a0_5 a0_6)))) else (some true))) else (none)) else (none)))) = some r := by rw [if_neg (show ¬ (false = true) by decide)] at H; exact H
          clear H
          have H := H1
          clear H1
          replace H := Option.bind_eq_some_iff.mp H
          obtain ⟨t171, A140, H⟩ := H
          replace H : ((croftlaw11_config.f a0_0 a0_1 a0_2).bind fun bt174 => (if 0 ≤ (l0_4.length : Int) then (if (l0_4.length : Int) ≤ (t171.length : Int) then ((oracle_NoFit.f bt174.1 bt174.2.1 bt174.2.2 a0_3 (t171.take ((l0_4.length : Int) : Int).toNat) a0_5).bind fun t181 => (if t181 = true then ((croftref11_R.f a0_0 a0_1 a0_2).bind fun t182 => ((croftref11_Total.f kj5 l0_4).bind fun t183 => (if (IntKind.u64.wrap (t167 * t183)) < (IntKind.u64.wrap (t168 * (IntKind.u64.wrap ((IntKind.u64.wrap (a0_3)) * t182)))) then (some false) else (croftlaw11_OracleBounds.l0 kj5 t167 (IntKind.u64.wrap ((IntKind.u64.wrap (a0_3)) * t182)) t183 0 a0_0 a0_1 a0_2 a0_3 l0_4 a0_5 a0_6)))) else (some true))) else (none)) else (none))) = some r := H
          have A14 := Aside0.mk A140
          clear A140
          replace H := Option.bind_eq_some_iff.mp H
          obtain ⟨⟨t174, t175, t176⟩, A150, H⟩ := H
          replace H : (if 0 ≤ (l0_4.length : Int) then (if (l0_4.length : Int) ≤ (t171.length : Int) then ((oracle_NoFit.f t174 t175 t176 a0_3 (t171.take ((l0_4.length : Int) : Int).toNat) a0_5).bind fun t181 => (if t181 = true then ((croftref11_R.f a0_0 a0_1 a0_2).bind fun t182 => ((croftref11_Total.f kj5 l0_4).bind fun t183 => (if (IntKind.u64.wrap (t167 * t183)) < (IntKind.u64.wrap (t168 * (IntKind.u64.wrap ((IntKind.u64.wrap (a0_3)) * t182)))) then (some false) else (croftlaw11_OracleBounds.l0 kj5 t167 (IntKind.u64.wrap ((IntKind.u64.wrap (a0_3)) * t182)) t183 0 a0_0 a0_1 a0_2 a0_3 l0_4 a0_5 a0_6)))) else (some true))) else (none)) else (none)) = some r := H
          have A15 := Aside0.mk A150
          clear A150
          by_cases c16 : 0 ≤ (l0_4.length : Int)
          · rw [if_pos c16] at H
            have c16b0 := eq_true c16
            have c16b1 : decide (0 ≤ (l0_4.length : Int)) = true := decide_eq_true c16
            clear c16
            by_cases c17 : (l0_4.length : Int) ≤ (t171.length : Int)
            · rw [if_pos c17] at H
              have c17b0 := eq_true c17
              have c17b1 : decide ((l0_4.length : Int) ≤ (t171.length : Int)) = true := decide_eq_true c17
              clear c17
              obtain ⟨y177, hy177⟩ : ∃ y_ : List (S55), y_ = (t171.take ((l0_4.length : Int) : Int).toNat) := ⟨_, rfl⟩
              replace H : ((oracle_NoFit.f t174 t175 t176 a0_3 y177 a0_5).bind fun t181 => (if t181 = true then ((croftref11_R.f a0_0 a0_1 a0_2).bind fun t182 => ((croftref11_Total.f kj5 l0_4).bind fun t183 => (if (IntKind.u64.wrap (t167 * t183)) < (IntKind.u64.wrap (t168 * (IntKind.u64.wrap ((IntKind.u64.wrap (a0_3)) * t182)))) then (some false) else (croftlaw11_OracleBounds.l0 kj5 t167 (IntKind.u64.wrap ((IntKind.u64.wrap (a0_3)) * t182)) t183 0 a0_0 a0_1 a0_2 a0_3 l0_4 a0_5 a0_6)))) else (some true))) = some r := by first | (rw [hy177]; with_reducible exact H) | (have H2_ := (Option.bind_some _ _).symm.trans H; rw [hy177]; with_reducible exact H2_) | (have H2_ := (Option.bind_some _ _).symm.trans H; with_reducible exact H2_) | with_reducible exact H | (rw [hy177]; exact H) | exact H
              have Ny177 := Aside0.mk hy177
              clear hy177
              replace H := Option.bind_eq_some_iff.mp H
              obtain ⟨t181, A180, H⟩ := H
              replace H : (if t181 = true then ((croftref11_R.f a0_0 a0_1 a0_2).bind fun t182 => ((croftref11_Total.f kj5 l0_4).bind fun t183 => (if (IntKind.u64.wrap (t167 * t183)) < (IntKind.u64.wrap (t168 * (IntKind.u64.wrap ((IntKind.u64.wrap (a0_3)) * t182)))) then (some false) else (croftlaw11_OracleBounds.l0 kj5 t167 (IntKind.u64.wrap ((IntKind.u64.wrap (a0_3)) * t182)) t183 0 a0_0 a0_1 a0_2 a0_3 l0_4 a0_5 a0_6)))) else (some true)) = some r := H
              have A18 := Aside0.mk A180
              clear A180
              by_cases c19 : t181 = true
              · subst c19
                have H1 : ((croftref11_R.f a0_0 a0_1 a0_2).bind fun t182 => ((croftref11_Total.f kj5 l0_4).bind fun t183 => (if (IntKind.u64.wrap (t167 * t183)) < (IntKind.u64.wrap (t168 * (IntKind.u64.wrap ((IntKind.u64.wrap (a0_3)) * t182)))) then (some false) else (croftlaw11_OracleBounds.l0 kj5 t167 (IntKind.u64.wrap ((IntKind.u64.wrap (a0_3)) * t182)) t183 0 a0_0 a0_1 a0_2 a0_3 l0_4 a0_5 a0_6)))) = some r := by rw [if_pos rfl] at H; exact H
                clear H
                have H := H1
                clear H1
                replace H := Option.bind_eq_some_iff.mp H
                obtain ⟨t182, A200, H⟩ := H
                replace H : ((croftref11_Total.f kj5 l0_4).bind fun t183 => (if (IntKind.u64.wrap (t167 * t183)) < (IntKind.u64.wrap (t168 * (IntKind.u64.wrap ((IntKind.u64.wrap (a0_3)) * t182)))) then (some false) else (croftlaw11_OracleBounds.l0 kj5 t167 (IntKind.u64.wrap ((IntKind.u64.wrap (a0_3)) * t182)) t183 0 a0_0 a0_1 a0_2 a0_3 l0_4 a0_5 a0_6))) = some r := H
                have A20 := Aside0.mk A200
                clear A200
                replace H := Option.bind_eq_some_iff.mp H
                obtain ⟨t183, A210, H⟩ := H
                replace H : (if (IntKind.u64.wrap (t167 * t183)) < (IntKind.u64.wrap (t168 * (IntKind.u64.wrap ((IntKind.u64.wrap (a0_3)) * t182)))) then (some false) else (croftlaw11_OracleBounds.l0 kj5 t167 (IntKind.u64.wrap ((IntKind.u64.wrap (a0_3)) * t182)) t183 0 a0_0 a0_1 a0_2 a0_3 l0_4 a0_5 a0_6)) = some r := H
                have A21 := Aside0.mk A210
                clear A210
                by_cases c22 : (IntKind.u64.wrap (t167 * t183)) < (IntKind.u64.wrap (t168 * (IntKind.u64.wrap ((IntKind.u64.wrap (a0_3)) * t182))))
                · rw [if_pos c22] at H
                  have c22b0 : decide ((IntKind.u64.wrap (t167 * t183)) < (IntKind.u64.wrap (t168 * (IntKind.u64.wrap ((IntKind.u64.wrap (a0_3)) * t182))))) = true := decide_eq_true c22
                  clear c22
                  obtain rfl := Option.some.inj H
                  have hcz23_0 : wc.cell? ⟨gb165, 0, none⟩ = some (.int .u64 a0_0) := (blk_cell BK165.out 0).trans rfl
                  have hcz23_1 : wc.cell? ⟨gb165, 1, none⟩ = some (.int .i64 a0_1) := (blk_cell BK165.out 1).trans rfl
                  have hcz23_2 : wc.cell? ⟨gb165, 2, none⟩ = some (.int .i64 a0_2) := (blk_cell BK165.out 2).trans rfl
                  have hcz23_3 : wc.cell? ⟨gb165, 3, none⟩ = some (.int .i64 a0_3) := (blk_cell BK165.out 3).trans rfl
                  have hcz23_4 : wc.cell? ⟨gb165, 4, none⟩ = some (.slice A0_4 l0_4.length c0_4) := (blk_cell BK165.out 4).trans rfl
                  have hcz23_5 : wc.cell? ⟨gb165, 5, none⟩ = some (.int .u64 a0_5) := (blk_cell BK165.out 5).trans rfl
                  have hcz23_6 : wc.cell? ⟨gb165, 6, none⟩ = some (.bool a0_6) := (blk_cell BK165.out 6).trans rfl
                  have hfz23_0 := blk_frozen BK165.out 0
                  have hfz23_1 := blk_frozen BK165.out 1
                  have hfz23_2 := blk_frozen BK165.out 2
                  have hfz23_3 := blk_frozen BK165.out 3
                  have hfz23_4 := blk_frozen BK165.out 4
                  have hfz23_5 := blk_frozen BK165.out 5
                  have hfz23_6 := blk_frozen BK165.out 6
                  try go_wp2_with (first | ((with_reducible refine gate_callee (f := 13) rfl ?_); refine goesL_ (some 35) rfl rfl Try.func13 (by kernel_rfl) rfl #[.slice A0_4 l0_4.length c0_4] rfl (by (try simp only [List.map_toArray, List.map_cons, List.map_nil]); first | done | rfl | (simp only [List.length_drop, List.length_take]; rfl)) ?_; (with_reducible refine (croftlaw11_blocks.calls kj5 _ _ l0_4 t171 _ ?side1 ?side2 A14.out).mono ?_); (case side1 => repeat (first | exact (Kd.C_below HR0_4.out HB.out) | (with_reducible refine Kd.C_alloc ?_ _) | (with_reducible refine Kd.C_drewN ?_ _) | (with_reducible refine Kd.C_drew ?_))); (case side2 => exact HC0_4.out); rintro e w24 ⟨v172, rfl, ho0, hb⟩; refine ⟨_, rfl, ?_⟩; have n0_ := Aside0.mk (Kd.R_lower ho0 (below_size (by repeat (first | (with_reducible first | exact HB.out | apply below_alloc | apply pw_below_drewN | apply below_drew1 | refine below_set ?_ GE165.out) | exact HB.out)))); have n1_ := Aside0.mk (blk_below (g := gb165) (o := .cells #[.int .u64 a0_0, .int .i64 a0_1, .int .i64 a0_2, .int .i64 a0_3, .slice A0_4 l0_4.length c0_4, .int .u64 a0_5, .bool a0_6] 44 (0, 0)) (by (with_reducible repeat (first | refine blk_drewN ?_ _ | refine blk_drew ?_ | refine blk_alloc ?_ _)); exact BK165.out) hb); have n2_ := Aside0.mk (below_step (by repeat (first | (with_reducible first | exact HB.out | apply below_alloc | apply pw_below_drewN | apply below_drew1 | refine below_set ?_ GE165.out) | exact HB.out)) hb); clear BK165; clear HB; have HO173 := n0_; have BK165 := n1_; have HB := n2_; clear n0_ n1_ n2_; (try clear hb); (try clear hb2); (try clear hk); (try clear hi); (try clear ho0)))
                  have n0_ := Aside0.mk (Kd.R_drew HO173.out)
                  have n1_ := Aside0.mk (blk_drew BK165.out)
                  have n2_ := Aside0.mk (below_drew1 HB.out)
                  clear HO173
                  clear BK165
                  clear HB
                  have HO173 := n0_
                  have BK165 := n1_
                  have HB := n2_
                  clear n0_ n1_ n2_
                  obtain ⟨Ao27, co27, eo27⟩ := Kd.R_slice HO173.out
                  (first | subst eo27 | (injection eo27 with f1_ f2_ f3_; have f4_ := f1_.symm; have f5_ := f3_.symm; clear f1_ f2_ f3_; subst f4_; subst f5_))
                  have q26 : ((l0_4.length : Int) : Int) ≤ ((t171.length : Int) : Int) := of_decide_eq_true (by first | (with_reducible assumption) | assumption)
                  obtain ⟨i026, hi026, _, hsz26, _⟩ := info_parts info55
                  have hroom26 : t171.length ≤ co27 := (Kd.R_reads' HO173.out).2.1
                  have hC26 : Kd.C k55 _ Ao27 t171.length t171 := (Kd.R_reads' HO173.out).2.2
                  have hcut26 := cut_to (P := Try.prog) 26 55 .i64 Try.underlying26 hi026 Ao27 t171.length co27 (l0_4.length : Int) (of_decide_eq_true (by first | (with_reducible assumption) | assumption)) q26 hroom26
                  have hr26 := Kd.C_take (m := ((l0_4.length : Int) : Int).toNat) hC26 (by omega)
                  have hy26 : y177.length = ((l0_4.length : Int) : Int).toNat := (by rw [Ny177.out, List.length_take]; omega)
                  rw [← Ny177.out] at hr26
                  rw [← hy26] at hcut26
                  have HR180 := Aside0.mk hr26
                  have HC180 := Aside0.mk (show y177.length ≤ co27 from by omega)
                  clear hr26 hC26 hroom26 hi026 hsz26
                  have KY26 := Aside0.mk hy26
                  clear hy26
                  have KL26 := Aside0.mk (show ((l0_4.length : Int) : Int).toNat ≤ t171.length from by omega)
                  replace q26 := eq_true q26
                  refine start_ (n := 14) (S := fun w' => w'.cell? ⟨gb165, 0, none⟩ = some (.int .u64 a0_0) ∧ w'.cell? ⟨gb165, 1, none⟩ = some (.int .i64 a0_1) ∧ w'.cell? ⟨gb165, 2, none⟩ = some (.int .i64 a0_2) ∧ w'.cell? ⟨gb165, 3, none⟩ = some (.int .i64 a0_3) ∧ w'.cell? ⟨gb165, 4, none⟩ = some (.slice A0_4 l0_4.length c0_4) ∧ w'.cell? ⟨gb165, 5, none⟩ = some (.int .u64 a0_5) ∧ w'.cell? ⟨gb165, 6, none⟩ = some (.bool a0_6)) (ds := []) #[false, false, false, false, false, false, false, false, false, false, false, false, false, false] (by kernel_rfl) rfl rfl ⟨(blk_cell BK165.out 0).trans rfl, (blk_cell BK165.out 1).trans rfl, (blk_cell BK165.out 2).trans rfl, (blk_cell BK165.out 3).trans rfl, (blk_cell BK165.out 4).trans rfl, (blk_cell BK165.out 5).trans rfl, (blk_cell BK165.out 6).trans rfl⟩ (fun hHeld => ?_); refine with_tabW croftlaw11_OracleBounds.tab8 croftlaw11_OracleBounds.bits8 (fun HT_ HW_ => ?_)
                  generalize w24.drew = w25 at HO173 BK165 HB HR180 hHeld ⊢
                  refine pure_ (i := 0) (N := some 36) (v := ?_) (a' := ?_) #[true, false, false, false, false, false, false, false, false, false, false, false, false, false] rfl rfl (any_of HT_.out (by kernel_rfl)) (fun _ _ _ h => h) (Or.inl ⟨by rfl, ?_⟩) ?_ ?_
                  rotate_left
                  · intro w'
                    go_simp
                    with_reducible rfl
                  rotate_left
                  · simp only [Act.put, List.setIfInBounds_toArray, List.set_cons_zero, List.set_cons_succ, i64_w, i32_w]
                    rfl
                  refine pure_ (i := 3) (N := some 39) (v := ?_) (a' := ?_) #[true, false, false, true, false, false, false, false, false, false, false, false, false, false] rfl rfl (any_of HT_.out (by kernel_rfl)) (fun _ _ _ h => h) (Or.inl ⟨by rfl, ?_⟩) ?_ ?_
                  rotate_left
                  · intro w'
                    go_simp
                    with_reducible rfl
                  rotate_left
                  · simp only [Act.put, List.setIfInBounds_toArray, List.set_cons_zero, List.set_cons_succ, i64_w, i32_w]
                    rfl
                  refine pure_ (i := 5) (N := some 41) (v := ?_) (a' := ?_) #[true, false, false, true, false, true, false, false, false, false, false, false, false, false] rfl rfl (any_of HT_.out (by kernel_rfl)) (fun _ _ _ h => h) (Or.inl ⟨by rfl, ?_⟩) ?_ ?_
                  rotate_left
                  · intro w'
                    go_simp
                    with_reducible rfl
                  rotate_left
                  · simp only [Act.put, List.setIfInBounds_toArray, List.set_cons_zero, List.set_cons_succ, i64_w, i32_w]
                    rfl
                  refine pure_ (i := 6) (N := some 42) (v := ?_) (a' := ?_) #[true, false, false, true, false, true, true, false, false, false, false, false, false, false] rfl rfl (any_of HT_.out (by kernel_rfl)) (fun _ _ _ h => h) (Or.inl ⟨by rfl, ?_⟩) ?_ ?_
                  rotate_left
                  · intro w'
                    go_simp
                    with_reducible rfl
                  rotate_left
                  · simp only [Act.put, List.setIfInBounds_toArray, List.set_cons_zero, List.set_cons_succ, i64_w, i32_w]
                    rfl
                  refine pure_ (i := 10) (N := some 46) (v := ?_) (a' := ?_) #[true, false, false, true, false, true, true, false, false, false, true, false, false, false] rfl rfl (any_of HT_.out (by kernel_rfl)) (fun _ _ _ h => h) (Or.inl ⟨by rfl, ?_⟩) ?_ ?_
                  rotate_left
                  · intro w'
                    go_simp
                    with_reducible rfl
                  rotate_left
                  · simp only [Act.put, List.setIfInBounds_toArray, List.set_cons_zero, List.set_cons_succ, i64_w, i32_w]
                    rfl
                  refine take_ (i := 1) (N := some 37) (v := ?_) (a' := ?_) #[true, true, false, true, false, true, true, false, false, false, true, false, false, false] rfl rfl (take_ofW HT_.out HW_.out (by kernel_rfl)) (fun _ _ _ h => h) (Or.inl ⟨by rfl, ?_⟩) hHeld ?_ ?_
                  rotate_left
                  · rintro w' ⟨s0, s1, s2, s3, s4, s5, s6⟩
                    go_simp
                    with_reducible rfl
                  rotate_left
                  · simp only [Act.put, List.setIfInBounds_toArray, List.set_cons_zero, List.set_cons_succ, i64_w, i32_w]
                    rfl
                  refine take_ (i := 4) (N := some 40) (v := ?_) (a' := ?_) #[true, true, false, true, true, true, true, false, false, false, true, false, false, false] rfl rfl (take_ofW HT_.out HW_.out (by kernel_rfl)) (fun _ _ _ h => h) (Or.inl ⟨by rfl, ?_⟩) hHeld ?_ ?_
                  rotate_left
                  · rintro w' ⟨s0, s1, s2, s3, s4, s5, s6⟩
                    go_simp
                    with_reducible rfl
                  rotate_left
                  · simp only [Act.put, List.setIfInBounds_toArray, List.set_cons_zero, List.set_cons_succ, i64_w, i32_w]
                    rfl
                  refine take_ (i := 7) (N := some 43) (v := ?_) (a' := ?_) #[true, true, false, true, true, true, true, true, false, false, true, false, false, false] rfl rfl (take_ofW HT_.out HW_.out (by kernel_rfl)) (fun _ _ _ h => h) (Or.inl ⟨by rfl, ?_⟩) hHeld ?_ ?_
                  rotate_left
                  · rintro w' ⟨s0, s1, s2, s3, s4, s5, s6⟩
                    go_simp
                    with_reducible rfl
                  rotate_left
                  · simp only [Act.put, List.setIfInBounds_toArray, List.set_cons_zero, List.set_cons_succ, i64_w, i32_w]
                    rfl
                  refine pure_ (i := 8) (N := some 44) (v := ?_) (a' := ?_) #[true, true, false, true, true, true, true, true, true, false, true, false, false, false] rfl rfl (any_of HT_.out (by kernel_rfl)) (fun _ _ _ h => h) (Or.inl ⟨by rfl, ?_⟩) ?_ ?_
                  rotate_left
                  · intro w'
                    go_simp
                    with_reducible rfl
                  rotate_left
                  · simp only [Act.put, List.setIfInBounds_toArray, List.set_cons_zero, List.set_cons_succ, i64_w, i32_w]
                    rfl
                  refine pure_ (i := 9) (N := some 45) (v := ?_) (a' := ?_) #[true, true, false, true, true, true, true, true, true, true, true, false, false, false] rfl rfl (any_of HT_.out (by kernel_rfl)) (fun _ _ _ h => h) (Or.inl ⟨by rfl, ?_⟩) ?_ ?_
                  rotate_left
                  · intro w'
                    go_simp
                    with_reducible rfl
                  rotate_left
                  · simp only [Act.put, List.setIfInBounds_toArray, List.set_cons_zero, List.set_cons_succ, i64_w, i32_w]
                    rfl
                  refine take_ (i := 11) (N := some 47) (v := ?_) (a' := ?_) #[true, true, false, true, true, true, true, true, true, true, true, true, false, false] rfl rfl (take_ofW HT_.out HW_.out (by kernel_rfl)) (fun _ _ _ h => h) (Or.inl ⟨by rfl, ?_⟩) hHeld ?_ ?_
                  rotate_left
                  · rintro w' ⟨s0, s1, s2, s3, s4, s5, s6⟩
                    go_simp
                    with_reducible rfl
                  rotate_left
                  · simp only [Act.put, List.setIfInBounds_toArray, List.set_cons_zero, List.set_cons_succ, i64_w, i32_w]
                    rfl
                  refine one_ (i := 2) (N := some 38) #[true, true, true, true, true, true, true, true, true, true, true, true, false, false] rfl rfl (one_of HT_.out (by kernel_rfl)) (by decide) (fun K hK => ?_)
                  refine goes_ Try.func15 (by kernel_rfl) rfl #[.agg #[.int .u64 a0_0, .int .i64 a0_1, .int .i64 a0_2]] (by rfl) rfl rfl (by (try simp only [List.map_toArray, List.map_cons, List.map_nil]); first | done | rfl | (simp only [List.length_drop, List.length_take]; rfl)) ?_
                  with_reducible refine (croftlaw11_config.calls a0_0 a0_1 a0_2 t174 t175 t176 _ A15.out).mono ?_
                  rintro e w28 ⟨rfl, hb⟩
                  refine ⟨_, rfl, ?_⟩
                  have n0_ := Aside0.mk (Kd.R_below (by (with_reducible repeat (first | apply Kd.R_alloc | apply Kd.R_drewN | apply Kd.R_drew)); exact HO173.out) hb)
                  have n1_ := Aside0.mk (blk_below (g := gb165) (o := .cells #[.int .u64 a0_0, .int .i64 a0_1, .int .i64 a0_2, .int .i64 a0_3, .slice A0_4 l0_4.length c0_4, .int .u64 a0_5, .bool a0_6] 44 (0, 0)) (by (with_reducible repeat (first | refine blk_drewN ?_ _ | refine blk_drew ?_ | refine blk_alloc ?_ _)); exact BK165.out) hb)
                  have n2_ := Aside0.mk (Kd.C_below (by repeat (first | (with_reducible exact HR180.out) | (with_reducible refine Kd.C_alloc ?_ _) | (with_reducible refine Kd.C_drewN ?_ _) | (with_reducible refine Kd.C_drew ?_) | exact HR180.out)) hb)
                  have n3_ := Aside0.mk (below_step (by repeat (first | (with_reducible first | exact HB.out | apply below_alloc | apply pw_below_drewN | apply below_drew1 | refine below_set ?_ GE165.out) | exact HB.out)) hb)
                  clear HO173
                  clear BK165
                  clear HR180
                  clear HB
                  have HO173 := n0_
                  have BK165 := n1_
                  have HR180 := n2_
                  have HB := n3_
                  clear n0_ n1_ n2_ n3_
                  (try clear hb)
                  (try clear hb2)
                  (try clear hk)
                  (try clear hi)
                  refine hK.out _ _ ⟨(blk_cell BK165.out 0).trans rfl, (blk_cell BK165.out 1).trans rfl, (blk_cell BK165.out 2).trans rfl, (blk_cell BK165.out 3).trans rfl, (blk_cell BK165.out 4).trans rfl, (blk_cell BK165.out 5).trans rfl, (blk_cell BK165.out 6).trans rfl⟩ (fun hHeld => ?_)
                  clear hK K
                  refine norm_ (a' := ?_) ?_ ?_
                  rotate_left
                  · show Act.put _ (some 38) _ = _
                    simp only [Act.put, List.setIfInBounds_toArray, List.set_cons_zero, List.set_cons_succ, i64_w, i32_w]
                    rfl
                  refine one_ (i := 12) (N := some 48) #[true, true, true, true, true, true, true, true, true, true, true, true, true, false] rfl rfl (one_of HT_.out (by kernel_rfl)) (by decide) (fun K hK => ?_)
                  refine goes_ Try.func23 (by kernel_rfl) rfl #[.agg #[.int .u64 t174, .int .i64 t175, .int .i64 t176], .int .i64 a0_3, .slice Ao27 y177.length co27, .int .u64 a0_5] (by rfl) rfl rfl (by (try simp only [List.map_toArray, List.map_cons, List.map_nil]); first | done | rfl | (simp only [List.length_drop, List.length_take]; rfl)) ?_
                  with_reducible refine (oracle_NoFit.calls t174 t175 t176 a0_3 _ _ y177 a0_5 true _ ?side1 ?side2 A18.out).mono ?_
                  (case side1 => repeat (first | exact (by repeat (first | (with_reducible exact HR180.out) | (with_reducible refine Kd.C_alloc ?_ _) | (with_reducible refine Kd.C_drewN ?_ _) | (with_reducible refine Kd.C_drew ?_) | exact HR180.out)) | (with_reducible refine Kd.C_alloc ?_ _) | (with_reducible refine Kd.C_drewN ?_ _) | (with_reducible refine Kd.C_drew ?_)))
                  (case side2 => exact HC180.out)
                  rintro e w29 ⟨rfl, hb⟩
                  refine ⟨_, rfl, ?_⟩
                  have n0_ := Aside0.mk (Kd.R_below (by (with_reducible repeat (first | apply Kd.R_alloc | apply Kd.R_drewN | apply Kd.R_drew)); exact HO173.out) hb)
                  have n1_ := Aside0.mk (blk_below (g := gb165) (o := .cells #[.int .u64 a0_0, .int .i64 a0_1, .int .i64 a0_2, .int .i64 a0_3, .slice A0_4 l0_4.length c0_4, .int .u64 a0_5, .bool a0_6] 44 (0, 0)) (by (with_reducible repeat (first | refine blk_drewN ?_ _ | refine blk_drew ?_ | refine blk_alloc ?_ _)); exact BK165.out) hb)
                  have n2_ := Aside0.mk (Kd.C_below (by repeat (first | (with_reducible exact HR180.out) | (with_reducible refine Kd.C_alloc ?_ _) | (with_reducible refine Kd.C_drewN ?_ _) | (with_reducible refine Kd.C_drew ?_) | exact HR180.out)) hb)
                  have n3_ := Aside0.mk (below_step (by repeat (first | (with_reducible first | exact HB.out | apply below_alloc | apply pw_below_drewN | apply below_drew1 | refine below_set ?_ GE165.out) | exact HB.out)) hb)
                  clear HO173
                  clear BK165
                  clear HR180
                  clear HB
                  have HO173 := n0_
                  have BK165 := n1_
                  have HR180 := n2_
                  have HB := n3_
                  clear n0_ n1_ n2_ n3_
                  (try clear hb)
                  (try clear hb2)
                  (try clear hk)
                  (try clear hi)
                  refine hK.out _ _ ⟨(blk_cell BK165.out 0).trans rfl, (blk_cell BK165.out 1).trans rfl, (blk_cell BK165.out 2).trans rfl, (blk_cell BK165.out 3).trans rfl, (blk_cell BK165.out 4).trans rfl, (blk_cell BK165.out 5).trans rfl, (blk_cell BK165.out 6).trans rfl⟩ (fun hHeld => ?_)
                  clear hK K
                  refine norm_ (a' := ?_) ?_ ?_
                  rotate_left
                  · show Act.put _ (some 48) _ = _
                    simp only [Act.put, List.setIfInBounds_toArray, List.set_cons_zero, List.set_cons_succ, i64_w, i32_w]
                    rfl
                  refine pure_ (i := 13) (N := some 49) (v := ?_) (a' := ?_) #[true, true, true, true, true, true, true, true, true, true, true, true, true, true] rfl rfl (any_of HT_.out (by kernel_rfl)) (fun _ _ _ h => h) (Or.inl ⟨by rfl, ?_⟩) ?_ ?_
                  rotate_left
                  · intro w'
                    go_simp
                    with_reducible rfl
                  rotate_left
                  · simp only [Act.put, List.setIfInBounds_toArray, List.set_cons_zero, List.set_cons_succ, i64_w, i32_w]
                    rfl
                  refine done_ (done_of HT_.out (by kernel_rfl)) ?_
                  try go_wp2
                  have n0_ := Aside0.mk (Kd.R_drew HO173.out)
                  have n1_ := Aside0.mk (blk_drew BK165.out)
                  have n2_ := Aside0.mk (Kd.C_drew HR180.out)
                  have n3_ := Aside0.mk (below_drew1 HB.out)
                  clear HO173
                  clear BK165
                  clear HR180
                  clear HB
                  have HO173 := n0_
                  have BK165 := n1_
                  have HR180 := n2_
                  have HB := n3_
                  clear n0_ n1_ n2_ n3_
                  refine start_ (n := 8) (S := fun w' => w'.cell? ⟨gb165, 0, none⟩ = some (.int .u64 a0_0) ∧ w'.cell? ⟨gb165, 1, none⟩ = some (.int .i64 a0_1) ∧ w'.cell? ⟨gb165, 2, none⟩ = some (.int .i64 a0_2) ∧ w'.cell? ⟨gb165, 3, none⟩ = some (.int .i64 a0_3) ∧ w'.cell? ⟨gb165, 4, none⟩ = some (.slice A0_4 l0_4.length c0_4) ∧ w'.cell? ⟨gb165, 5, none⟩ = some (.int .u64 a0_5) ∧ w'.cell? ⟨gb165, 6, none⟩ = some (.bool a0_6)) (ds := []) #[false, false, false, false, false, false, false, false] (by kernel_rfl) rfl rfl ⟨(blk_cell BK165.out 0).trans rfl, (blk_cell BK165.out 1).trans rfl, (blk_cell BK165.out 2).trans rfl, (blk_cell BK165.out 3).trans rfl, (blk_cell BK165.out 4).trans rfl, (blk_cell BK165.out 5).trans rfl, (blk_cell BK165.out 6).trans rfl⟩ (fun hHeld => ?_); refine with_tabW croftlaw11_OracleBounds.tab10 croftlaw11_OracleBounds.bits10 (fun HT_ HW_ => ?_)
                  generalize w29.drew = w30 at HO173 BK165 HR180 HB hHeld ⊢
                  refine pure_ (i := 0) (N := some 50) (v := ?_) (a' := ?_) #[true, false, false, false, false, false, false, false] rfl rfl (any_of HT_.out (by kernel_rfl)) (fun _ _ _ h => h) (Or.inl ⟨by rfl, ?_⟩) ?_ ?_
                  rotate_left
                  · intro w'
                    go_simp
                    with_reducible rfl
                  rotate_left
                  · simp only [Act.put, List.setIfInBounds_toArray, List.set_cons_zero, List.set_cons_succ, i64_w, i32_w]
                    rfl
                  refine pure_ (i := 3) (N := some 53) (v := ?_) (a' := ?_) #[true, false, false, true, false, false, false, false] rfl rfl (any_of HT_.out (by kernel_rfl)) (fun _ _ _ h => h) (Or.inl ⟨by rfl, ?_⟩) ?_ ?_
                  rotate_left
                  · intro w'
                    go_simp
                    with_reducible rfl
                  rotate_left
                  · simp only [Act.put, List.setIfInBounds_toArray, List.set_cons_zero, List.set_cons_succ, i64_w, i32_w]
                    rfl
                  refine take_ (i := 1) (N := some 51) (v := ?_) (a' := ?_) #[true, true, false, true, false, false, false, false] rfl rfl (take_ofW HT_.out HW_.out (by kernel_rfl)) (fun _ _ _ h => h) (Or.inl ⟨by rfl, ?_⟩) hHeld ?_ ?_
                  rotate_left
                  · rintro w' ⟨s0, s1, s2, s3, s4, s5, s6⟩
                    go_simp
                    with_reducible rfl
                  rotate_left
                  · simp only [Act.put, List.setIfInBounds_toArray, List.set_cons_zero, List.set_cons_succ, i64_w, i32_w]
                    rfl
                  refine pure_ (i := 2) (N := some 52) (v := ?_) (a' := ?_) #[true, true, true, true, false, false, false, false] rfl rfl (any_of HT_.out (by kernel_rfl)) (fun _ _ _ h => h) (Or.inl ⟨by rfl, ?_⟩) ?_ ?_
                  rotate_left
                  · intro w'
                    go_simp
                    with_reducible rfl
                  rotate_left
                  · simp only [Act.put, List.setIfInBounds_toArray, List.set_cons_zero, List.set_cons_succ, i64_w, i32_w]
                    rfl
                  refine take_ (i := 4) (N := some 54) (v := ?_) (a' := ?_) #[true, true, true, true, true, false, false, false] rfl rfl (take_ofW HT_.out HW_.out (by kernel_rfl)) (fun _ _ _ h => h) (Or.inl ⟨by rfl, ?_⟩) hHeld ?_ ?_
                  rotate_left
                  · rintro w' ⟨s0, s1, s2, s3, s4, s5, s6⟩
                    go_simp
                    with_reducible rfl
                  rotate_left
                  · simp only [Act.put, List.setIfInBounds_toArray, List.set_cons_zero, List.set_cons_succ, i64_w, i32_w]
                    rfl
                  refine one_ (i := 5) (N := some 55) #[true, true, true, true, true, true, false, false] rfl rfl (one_of HT_.out (by kernel_rfl)) (by decide) (fun K hK => ?_)
                  refine goes_ Try.func24 (by kernel_rfl) rfl #[.agg #[.int .u64 a0_0, .int .i64 a0_1, .int .i64 a0_2]] (by rfl) rfl rfl (by (try simp only [List.map_toArray, List.map_cons, List.map_nil]); first | done | rfl | (simp only [List.length_drop, List.length_take]; rfl)) ?_
                  with_reducible refine (croftref11_R.calls a0_0 a0_1 a0_2 t182 _ A20.out).mono ?_
                  rintro e w31 ⟨rfl, hb⟩
                  refine ⟨_, rfl, ?_⟩
                  have n0_ := Aside0.mk (Kd.R_below (by (with_reducible repeat (first | apply Kd.R_alloc | apply Kd.R_drewN | apply Kd.R_drew)); exact HO173.out) hb)
                  have n1_ := Aside0.mk (blk_below (g := gb165) (o := .cells #[.int .u64 a0_0, .int .i64 a0_1, .int .i64 a0_2, .int .i64 a0_3, .slice A0_4 l0_4.length c0_4, .int .u64 a0_5, .bool a0_6] 44 (0, 0)) (by (with_reducible repeat (first | refine blk_drewN ?_ _ | refine blk_drew ?_ | refine blk_alloc ?_ _)); exact BK165.out) hb)
                  have n2_ := Aside0.mk (Kd.C_below (by repeat (first | (with_reducible exact HR180.out) | (with_reducible refine Kd.C_alloc ?_ _) | (with_reducible refine Kd.C_drewN ?_ _) | (with_reducible refine Kd.C_drew ?_) | exact HR180.out)) hb)
                  have n3_ := Aside0.mk (below_step (by repeat (first | (with_reducible first | exact HB.out | apply below_alloc | apply pw_below_drewN | apply below_drew1 | refine below_set ?_ GE165.out) | exact HB.out)) hb)
                  clear HO173
                  clear BK165
                  clear HR180
                  clear HB
                  have HO173 := n0_
                  have BK165 := n1_
                  have HR180 := n2_
                  have HB := n3_
                  clear n0_ n1_ n2_ n3_
                  (try clear hb)
                  (try clear hb2)
                  (try clear hk)
                  (try clear hi)
                  refine hK.out _ _ ⟨(blk_cell BK165.out 0).trans rfl, (blk_cell BK165.out 1).trans rfl, (blk_cell BK165.out 2).trans rfl, (blk_cell BK165.out 3).trans rfl, (blk_cell BK165.out 4).trans rfl, (blk_cell BK165.out 5).trans rfl, (blk_cell BK165.out 6).trans rfl⟩ (fun hHeld => ?_)
                  clear hK K
                  refine norm_ (a' := ?_) ?_ ?_
                  rotate_left
                  · show Act.put _ (some 55) _ = _
                    simp only [Act.put, List.setIfInBounds_toArray, List.set_cons_zero, List.set_cons_succ, i64_w, i32_w]
                    rfl
                  refine pure_ (i := 6) (N := some 56) (v := ?_) (a' := ?_) #[true, true, true, true, true, true, true, false] rfl rfl (any_of HT_.out (by kernel_rfl)) (fun _ _ _ h => h) (Or.inl ⟨by rfl, ?_⟩) ?_ ?_
                  rotate_left
                  · intro w'
                    go_simp
                    with_reducible rfl
                  rotate_left
                  · simp only [Act.put, List.setIfInBounds_toArray, List.set_cons_zero, List.set_cons_succ, i64_w, i32_w]
                    rfl
                  refine pure_ (i := 7) (N := some 8) (v := ?_) (a' := ?_) #[true, true, true, true, true, true, true, true] rfl rfl (any_of HT_.out (by kernel_rfl)) (fun _ _ _ h => h) (Or.inl ⟨by rfl, ?_⟩) ?_ ?_
                  rotate_left
                  · intro w'
                    go_simp
                    with_reducible rfl
                  rotate_left
                  · simp only [Act.put, List.setIfInBounds_toArray, List.set_cons_zero, List.set_cons_succ, i64_w, i32_w]
                    rfl
                  refine done_ (done_of HT_.out (by kernel_rfl)) ?_
                  have hcz32_0 : w31.cell? ⟨gb165, 0, none⟩ = some (.int .u64 a0_0) := (blk_cell BK165.out 0).trans rfl
                  have hcz32_1 : w31.cell? ⟨gb165, 1, none⟩ = some (.int .i64 a0_1) := (blk_cell BK165.out 1).trans rfl
                  have hcz32_2 : w31.cell? ⟨gb165, 2, none⟩ = some (.int .i64 a0_2) := (blk_cell BK165.out 2).trans rfl
                  have hcz32_3 : w31.cell? ⟨gb165, 3, none⟩ = some (.int .i64 a0_3) := (blk_cell BK165.out 3).trans rfl
                  have hcz32_4 : w31.cell? ⟨gb165, 4, none⟩ = some (.slice A0_4 l0_4.length c0_4) := (blk_cell BK165.out 4).trans rfl
                  have hcz32_5 : w31.cell? ⟨gb165, 5, none⟩ = some (.int .u64 a0_5) := (blk_cell BK165.out 5).trans rfl
                  have hcz32_6 : w31.cell? ⟨gb165, 6, none⟩ = some (.bool a0_6) := (blk_cell BK165.out 6).trans rfl
                  have hfz32_0 := blk_frozen BK165.out 0
                  have hfz32_1 := blk_frozen BK165.out 1
                  have hfz32_2 := blk_frozen BK165.out 2
                  have hfz32_3 := blk_frozen BK165.out 3
                  have hfz32_4 := blk_frozen BK165.out 4
                  have hfz32_5 := blk_frozen BK165.out 5
                  have hfz32_6 := blk_frozen BK165.out 6
                  try go_wp2_with (first | ((with_reducible refine gate_callee (f := 32) rfl ?_); refine goesL_ (some 59) rfl rfl Try.func32 (by kernel_rfl) rfl #[.slice A0_4 l0_4.length c0_4] rfl (by (try simp only [List.map_toArray, List.map_cons, List.map_nil]); first | done | rfl | (simp only [List.length_drop, List.length_take]; rfl)) ?_; (with_reducible refine (croftref11_Total.calls kj5 _ _ l0_4 t183 _ ?side1 ?side2 A21.out).mono ?_); (case side1 => repeat (first | exact (Kd.C_below HR0_4.out HB.out) | (with_reducible refine Kd.C_alloc ?_ _) | (with_reducible refine Kd.C_drewN ?_ _) | (with_reducible refine Kd.C_drew ?_))); (case side2 => exact HC0_4.out); rintro e w' ⟨rfl, ⟨nd, rfl⟩⟩; refine ⟨_, rfl, ?_⟩))
                  go_ret
                  exact ⟨by first | rfl | (simp [errW_none, errW_some] <;> rfl) | (simp [*, errW_none, errW_some] <;> rfl), by repeat (first | (with_reducible first | exact HB.out | apply below_alloc | apply pw_below_drewN | apply below_drew1 | refine below_set ?_ GE165.out) | exact HB.out)⟩
                · rw [if_neg c22] at H
                  have c22b0 : decide ((IntKind.u64.wrap (t167 * t183)) < (IntKind.u64.wrap (t168 * (IntKind.u64.wrap ((IntKind.u64.wrap (a0_3)) * t182))))) = false := decide_eq_false c22
                  clear c22
                  have H' := Aside0.mk H
                  clear H
                  have hcz33_0 : wc.cell? ⟨gb165, 0, none⟩ = some (.int .u64 a0_0) := (blk_cell BK165.out 0).trans rfl
                  have hcz33_1 : wc.cell? ⟨gb165, 1, none⟩ = some (.int .i64 a0_1) := (blk_cell BK165.out 1).trans rfl
                  have hcz33_2 : wc.cell? ⟨gb165, 2, none⟩ = some (.int .i64 a0_2) := (blk_cell BK165.out 2).trans rfl
                  have hcz33_3 : wc.cell? ⟨gb165, 3, none⟩ = some (.int .i64 a0_3) := (blk_cell BK165.out 3).trans rfl
                  have hcz33_4 : wc.cell? ⟨gb165, 4, none⟩ = some (.slice A0_4 l0_4.length c0_4) := (blk_cell BK165.out 4).trans rfl
                  have hcz33_5 : wc.cell? ⟨gb165, 5, none⟩ = some (.int .u64 a0_5) := (blk_cell BK165.out 5).trans rfl
                  have hcz33_6 : wc.cell? ⟨gb165, 6, none⟩ = some (.bool a0_6) := (blk_cell BK165.out 6).trans rfl
                  have hfz33_0 := blk_frozen BK165.out 0
                  have hfz33_1 := blk_frozen BK165.out 1
                  have hfz33_2 := blk_frozen BK165.out 2
                  have hfz33_3 := blk_frozen BK165.out 3
                  have hfz33_4 := blk_frozen BK165.out 4
                  have hfz33_5 := blk_frozen BK165.out 5
                  have hfz33_6 := blk_frozen BK165.out 6
                  try go_wp2_with (first | ((with_reducible refine gate_callee (f := 13) rfl ?_); refine goesL_ (some 35) rfl rfl Try.func13 (by kernel_rfl) rfl #[.slice A0_4 l0_4.length c0_4] rfl (by (try simp only [List.map_toArray, List.map_cons, List.map_nil]); first | done | rfl | (simp only [List.length_drop, List.length_take]; rfl)) ?_; (with_reducible refine (croftlaw11_blocks.calls kj5 _ _ l0_4 t171 _ ?side1 ?side2 A14.out).mono ?_); (case side1 => repeat (first | exact (Kd.C_below HR0_4.out HB.out) | (with_reducible refine Kd.C_alloc ?_ _) | (with_reducible refine Kd.C_drewN ?_ _) | (with_reducible refine Kd.C_drew ?_))); (case side2 => exact HC0_4.out); rintro e w34 ⟨v172, rfl, ho0, hb⟩; refine ⟨_, rfl, ?_⟩; have n0_ := Aside0.mk (Kd.R_lower ho0 (below_size (by repeat (first | (with_reducible first | exact HB.out | apply below_alloc | apply pw_below_drewN | apply below_drew1 | refine below_set ?_ GE165.out) | exact HB.out)))); have n1_ := Aside0.mk (blk_below (g := gb165) (o := .cells #[.int .u64 a0_0, .int .i64 a0_1, .int .i64 a0_2, .int .i64 a0_3, .slice A0_4 l0_4.length c0_4, .int .u64 a0_5, .bool a0_6] 44 (0, 0)) (by (with_reducible repeat (first | refine blk_drewN ?_ _ | refine blk_drew ?_ | refine blk_alloc ?_ _)); exact BK165.out) hb); have n2_ := Aside0.mk (below_step (by repeat (first | (with_reducible first | exact HB.out | apply below_alloc | apply pw_below_drewN | apply below_drew1 | refine below_set ?_ GE165.out) | exact HB.out)) hb); clear BK165; clear HB; have HO173 := n0_; have BK165 := n1_; have HB := n2_; clear n0_ n1_ n2_; (try clear hb); (try clear hb2); (try clear hk); (try clear hi); (try clear ho0)))
                  have n0_ := Aside0.mk (Kd.R_drew HO173.out)
                  have n1_ := Aside0.mk (blk_drew BK165.out)
                  have n2_ := Aside0.mk (below_drew1 HB.out)
                  clear HO173
                  clear BK165
                  clear HB
                  have HO173 := n0_
                  have BK165 := n1_
                  have HB := n2_
                  clear n0_ n1_ n2_
                  obtain ⟨Ao37, co37, eo37⟩ := Kd.R_slice HO173.out
                  (first | subst eo37 | (injection eo37 with f1_ f2_ f3_; have f4_ := f1_.symm; have f5_ := f3_.symm; clear f1_ f2_ f3_; subst f4_; subst f5_))
                  have q36 : ((l0_4.length : Int) : Int) ≤ ((t171.length : Int) : Int) := of_decide_eq_true (by first | (with_reducible assumption) | assumption)
                  obtain ⟨i036, hi036, _, hsz36, _⟩ := info_parts info55
                  have hroom36 : t171.length ≤ co37 := (Kd.R_reads' HO173.out).2.1
                  have hC36 : Kd.C k55 _ Ao37 t171.length t171 := (Kd.R_reads' HO173.out).2.2
                  have hcut36 := cut_to (P := Try.prog) 26 55 .i64 Try.underlying26 hi036 Ao37 t171.length co37 (l0_4.length : Int) (of_decide_eq_true (by first | (with_reducible assumption) | assumption)) q36 hroom36
                  have hr36 := Kd.C_take (m := ((l0_4.length : Int) : Int).toNat) hC36 (by omega)
                  have hy36 : y177.length = ((l0_4.length : Int) : Int).toNat := (by rw [Ny177.out, List.length_take]; omega)
                  rw [← Ny177.out] at hr36
                  rw [← hy36] at hcut36
                  have HR180 := Aside0.mk hr36
                  have HC180 := Aside0.mk (show y177.length ≤ co37 from by omega)
                  clear hr36 hC36 hroom36 hi036 hsz36
                  have KY36 := Aside0.mk hy36
                  clear hy36
                  have KL36 := Aside0.mk (show ((l0_4.length : Int) : Int).toNat ≤ t171.length from by omega)
                  replace q36 := eq_true q36
                  refine start_ (n := 14) (S := fun w' => w'.cell? ⟨gb165, 0, none⟩ = some (.int .u64 a0_0) ∧ w'.cell? ⟨gb165, 1, none⟩ = some (.int .i64 a0_1) ∧ w'.cell? ⟨gb165, 2, none⟩ = some (.int .i64 a0_2) ∧ w'.cell? ⟨gb165, 3, none⟩ = some (.int .i64 a0_3) ∧ w'.cell? ⟨gb165, 4, none⟩ = some (.slice A0_4 l0_4.length c0_4) ∧ w'.cell? ⟨gb165, 5, none⟩ = some (.int .u64 a0_5) ∧ w'.cell? ⟨gb165, 6, none⟩ = some (.bool a0_6)) (ds := []) #[false, false, false, false, false, false, false, false, false, false, false, false, false, false] (by kernel_rfl) rfl rfl ⟨(blk_cell BK165.out 0).trans rfl, (blk_cell BK165.out 1).trans rfl, (blk_cell BK165.out 2).trans rfl, (blk_cell BK165.out 3).trans rfl, (blk_cell BK165.out 4).trans rfl, (blk_cell BK165.out 5).trans rfl, (blk_cell BK165.out 6).trans rfl⟩ (fun hHeld => ?_); refine with_tabW croftlaw11_OracleBounds.tab8 croftlaw11_OracleBounds.bits8 (fun HT_ HW_ => ?_)
                  generalize w34.drew = w35 at HO173 BK165 HB HR180 hHeld ⊢
                  refine pure_ (i := 0) (N := some 36) (v := ?_) (a' := ?_) #[true, false, false, false, false, false, false, false, false, false, false, false, false, false] rfl rfl (any_of HT_.out (by kernel_rfl)) (fun _ _ _ h => h) (Or.inl ⟨by rfl, ?_⟩) ?_ ?_
                  rotate_left
                  · intro w'
                    go_simp
                    with_reducible rfl
                  rotate_left
                  · simp only [Act.put, List.setIfInBounds_toArray, List.set_cons_zero, List.set_cons_succ, i64_w, i32_w]
                    rfl
                  refine pure_ (i := 3) (N := some 39) (v := ?_) (a' := ?_) #[true, false, false, true, false, false, false, false, false, false, false, false, false, false] rfl rfl (any_of HT_.out (by kernel_rfl)) (fun _ _ _ h => h) (Or.inl ⟨by rfl, ?_⟩) ?_ ?_
                  rotate_left
                  · intro w'
                    go_simp
                    with_reducible rfl
                  rotate_left
                  · simp only [Act.put, List.setIfInBounds_toArray, List.set_cons_zero, List.set_cons_succ, i64_w, i32_w]
                    rfl
                  refine pure_ (i := 5) (N := some 41) (v := ?_) (a' := ?_) #[true, false, false, true, false, true, false, false, false, false, false, false, false, false] rfl rfl (any_of HT_.out (by kernel_rfl)) (fun _ _ _ h => h) (Or.inl ⟨by rfl, ?_⟩) ?_ ?_
                  rotate_left
                  · intro w'
                    go_simp
                    with_reducible rfl
                  rotate_left
                  · simp only [Act.put, List.setIfInBounds_toArray, List.set_cons_zero, List.set_cons_succ, i64_w, i32_w]
                    rfl
                  refine pure_ (i := 6) (N := some 42) (v := ?_) (a' := ?_) #[true, false, false, true, false, true, true, false, false, false, false, false, false, false] rfl rfl (any_of HT_.out (by kernel_rfl)) (fun _ _ _ h => h) (Or.inl ⟨by rfl, ?_⟩) ?_ ?_
                  rotate_left
                  · intro w'
                    go_simp
                    with_reducible rfl
                  rotate_left
                  · simp only [Act.put, List.setIfInBounds_toArray, List.set_cons_zero, List.set_cons_succ, i64_w, i32_w]
                    rfl
                  refine pure_ (i := 10) (N := some 46) (v := ?_) (a' := ?_) #[true, false, false, true, false, true, true, false, false, false, true, false, false, false] rfl rfl (any_of HT_.out (by kernel_rfl)) (fun _ _ _ h => h) (Or.inl ⟨by rfl, ?_⟩) ?_ ?_
                  rotate_left
                  · intro w'
                    go_simp
                    with_reducible rfl
                  rotate_left
                  · simp only [Act.put, List.setIfInBounds_toArray, List.set_cons_zero, List.set_cons_succ, i64_w, i32_w]
                    rfl
                  refine take_ (i := 1) (N := some 37) (v := ?_) (a' := ?_) #[true, true, false, true, false, true, true, false, false, false, true, false, false, false] rfl rfl (take_ofW HT_.out HW_.out (by kernel_rfl)) (fun _ _ _ h => h) (Or.inl ⟨by rfl, ?_⟩) hHeld ?_ ?_
                  rotate_left
                  · rintro w' ⟨s0, s1, s2, s3, s4, s5, s6⟩
                    go_simp
                    with_reducible rfl
                  rotate_left
                  · simp only [Act.put, List.setIfInBounds_toArray, List.set_cons_zero, List.set_cons_succ, i64_w, i32_w]
                    rfl
                  refine take_ (i := 4) (N := some 40) (v := ?_) (a' := ?_) #[true, true, false, true, true, true, true, false, false, false, true, false, false, false] rfl rfl (take_ofW HT_.out HW_.out (by kernel_rfl)) (fun _ _ _ h => h) (Or.inl ⟨by rfl, ?_⟩) hHeld ?_ ?_
                  rotate_left
                  · rintro w' ⟨s0, s1, s2, s3, s4, s5, s6⟩
                    go_simp
                    with_reducible rfl
                  rotate_left
                  · simp only [Act.put, List.setIfInBounds_toArray, List.set_cons_zero, List.set_cons_succ, i64_w, i32_w]
                    rfl
                  refine take_ (i := 7) (N := some 43) (v := ?_) (a' := ?_) #[true, true, false, true, true, true, true, true, false, false, true, false, false, false] rfl rfl (take_ofW HT_.out HW_.out (by kernel_rfl)) (fun _ _ _ h => h) (Or.inl ⟨by rfl, ?_⟩) hHeld ?_ ?_
                  rotate_left
                  · rintro w' ⟨s0, s1, s2, s3, s4, s5, s6⟩
                    go_simp
                    with_reducible rfl
                  rotate_left
                  · simp only [Act.put, List.setIfInBounds_toArray, List.set_cons_zero, List.set_cons_succ, i64_w, i32_w]
                    rfl
                  refine pure_ (i := 8) (N := some 44) (v := ?_) (a' := ?_) #[true, true, false, true, true, true, true, true, true, false, true, false, false, false] rfl rfl (any_of HT_.out (by kernel_rfl)) (fun _ _ _ h => h) (Or.inl ⟨by rfl, ?_⟩) ?_ ?_
                  rotate_left
                  · intro w'
                    go_simp
                    with_reducible rfl
                  rotate_left
                  · simp only [Act.put, List.setIfInBounds_toArray, List.set_cons_zero, List.set_cons_succ, i64_w, i32_w]
                    rfl
                  refine pure_ (i := 9) (N := some 45) (v := ?_) (a' := ?_) #[true, true, false, true, true, true, true, true, true, true, true, false, false, false] rfl rfl (any_of HT_.out (by kernel_rfl)) (fun _ _ _ h => h) (Or.inl ⟨by rfl, ?_⟩) ?_ ?_
                  rotate_left
                  · intro w'
                    go_simp
                    with_reducible rfl
                  rotate_left
                  · simp only [Act.put, List.setIfInBounds_toArray, List.set_cons_zero, List.set_cons_succ, i64_w, i32_w]
                    rfl
                  refine take_ (i := 11) (N := some 47) (v := ?_) (a' := ?_) #[true, true, false, true, true, true, true, true, true, true, true, true, false, false] rfl rfl (take_ofW HT_.out HW_.out (by kernel_rfl)) (fun _ _ _ h => h) (Or.inl ⟨by rfl, ?_⟩) hHeld ?_ ?_
                  rotate_left
                  · rintro w' ⟨s0, s1, s2, s3, s4, s5, s6⟩
                    go_simp
                    with_reducible rfl
                  rotate_left
                  · simp only [Act.put, List.setIfInBounds_toArray, List.set_cons_zero, List.set_cons_succ, i64_w, i32_w]
                    rfl
                  refine one_ (i := 2) (N := some 38) #[true, true, true, true, true, true, true, true, true, true, true, true, false, false] rfl rfl (one_of HT_.out (by kernel_rfl)) (by decide) (fun K hK => ?_)
                  refine goes_ Try.func15 (by kernel_rfl) rfl #[.agg #[.int .u64 a0_0, .int .i64 a0_1, .int .i64 a0_2]] (by rfl) rfl rfl (by (try simp only [List.map_toArray, List.map_cons, List.map_nil]); first | done | rfl | (simp only [List.length_drop, List.length_take]; rfl)) ?_
                  with_reducible refine (croftlaw11_config.calls a0_0 a0_1 a0_2 t174 t175 t176 _ A15.out).mono ?_
                  rintro e w38 ⟨rfl, hb⟩
                  refine ⟨_, rfl, ?_⟩
                  have n0_ := Aside0.mk (Kd.R_below (by (with_reducible repeat (first | apply Kd.R_alloc | apply Kd.R_drewN | apply Kd.R_drew)); exact HO173.out) hb)
                  have n1_ := Aside0.mk (blk_below (g := gb165) (o := .cells #[.int .u64 a0_0, .int .i64 a0_1, .int .i64 a0_2, .int .i64 a0_3, .slice A0_4 l0_4.length c0_4, .int .u64 a0_5, .bool a0_6] 44 (0, 0)) (by (with_reducible repeat (first | refine blk_drewN ?_ _ | refine blk_drew ?_ | refine blk_alloc ?_ _)); exact BK165.out) hb)
                  have n2_ := Aside0.mk (Kd.C_below (by repeat (first | (with_reducible exact HR180.out) | (with_reducible refine Kd.C_alloc ?_ _) | (with_reducible refine Kd.C_drewN ?_ _) | (with_reducible refine Kd.C_drew ?_) | exact HR180.out)) hb)
                  have n3_ := Aside0.mk (below_step (by repeat (first | (with_reducible first | exact HB.out | apply below_alloc | apply pw_below_drewN | apply below_drew1 | refine below_set ?_ GE165.out) | exact HB.out)) hb)
                  clear HO173
                  clear BK165
                  clear HR180
                  clear HB
                  have HO173 := n0_
                  have BK165 := n1_
                  have HR180 := n2_
                  have HB := n3_
                  clear n0_ n1_ n2_ n3_
                  (try clear hb)
                  (try clear hb2)
                  (try clear hk)
                  (try clear hi)
                  refine hK.out _ _ ⟨(blk_cell BK165.out 0).trans rfl, (blk_cell BK165.out 1).trans rfl, (blk_cell BK165.out 2).trans rfl, (blk_cell BK165.out 3).trans rfl, (blk_cell BK165.out 4).trans rfl, (blk_cell BK165.out 5).trans rfl, (blk_cell BK165.out 6).trans rfl⟩ (fun hHeld => ?_)
                  clear hK K
                  refine norm_ (a' := ?_) ?_ ?_
                  rotate_left
                  · show Act.put _ (some 38) _ = _
                    simp only [Act.put, List.setIfInBounds_toArray, List.set_cons_zero, List.set_cons_succ, i64_w, i32_w]
                    rfl
                  refine one_ (i := 12) (N := some 48) #[true, true, true, true, true, true, true, true, true, true, true, true, true, false] rfl rfl (one_of HT_.out (by kernel_rfl)) (by decide) (fun K hK => ?_)
                  refine goes_ Try.func23 (by kernel_rfl) rfl #[.agg #[.int .u64 t174, .int .i64 t175, .int .i64 t176], .int .i64 a0_3, .slice Ao37 y177.length co37, .int .u64 a0_5] (by rfl) rfl rfl (by (try simp only [List.map_toArray, List.map_cons, List.map_nil]); first | done | rfl | (simp only [List.length_drop, List.length_take]; rfl)) ?_
                  with_reducible refine (oracle_NoFit.calls t174 t175 t176 a0_3 _ _ y177 a0_5 true _ ?side1 ?side2 A18.out).mono ?_
                  (case side1 => repeat (first | exact (by repeat (first | (with_reducible exact HR180.out) | (with_reducible refine Kd.C_alloc ?_ _) | (with_reducible refine Kd.C_drewN ?_ _) | (with_reducible refine Kd.C_drew ?_) | exact HR180.out)) | (with_reducible refine Kd.C_alloc ?_ _) | (with_reducible refine Kd.C_drewN ?_ _) | (with_reducible refine Kd.C_drew ?_)))
                  (case side2 => exact HC180.out)
                  rintro e w39 ⟨rfl, hb⟩
                  refine ⟨_, rfl, ?_⟩
                  have n0_ := Aside0.mk (Kd.R_below (by (with_reducible repeat (first | apply Kd.R_alloc | apply Kd.R_drewN | apply Kd.R_drew)); exact HO173.out) hb)
                  have n1_ := Aside0.mk (blk_below (g := gb165) (o := .cells #[.int .u64 a0_0, .int .i64 a0_1, .int .i64 a0_2, .int .i64 a0_3, .slice A0_4 l0_4.length c0_4, .int .u64 a0_5, .bool a0_6] 44 (0, 0)) (by (with_reducible repeat (first | refine blk_drewN ?_ _ | refine blk_drew ?_ | refine blk_alloc ?_ _)); exact BK165.out) hb)
                  have n2_ := Aside0.mk (Kd.C_below (by repeat (first | (with_reducible exact HR180.out) | (with_reducible refine Kd.C_alloc ?_ _) | (with_reducible refine Kd.C_drewN ?_ _) | (with_reducible refine Kd.C_drew ?_) | exact HR180.out)) hb)
                  have n3_ := Aside0.mk (below_step (by repeat (first | (with_reducible first | exact HB.out | apply below_alloc | apply pw_below_drewN | apply below_drew1 | refine below_set ?_ GE165.out) | exact HB.out)) hb)
                  clear HO173
                  clear BK165
                  clear HR180
                  clear HB
                  have HO173 := n0_
                  have BK165 := n1_
                  have HR180 := n2_
                  have HB := n3_
                  clear n0_ n1_ n2_ n3_
                  (try clear hb)
                  (try clear hb2)
                  (try clear hk)
                  (try clear hi)
                  refine hK.out _ _ ⟨(blk_cell BK165.out 0).trans rfl, (blk_cell BK165.out 1).trans rfl, (blk_cell BK165.out 2).trans rfl, (blk_cell BK165.out 3).trans rfl, (blk_cell BK165.out 4).trans rfl, (blk_cell BK165.out 5).trans rfl, (blk_cell BK165.out 6).trans rfl⟩ (fun hHeld => ?_)
                  clear hK K
                  refine norm_ (a' := ?_) ?_ ?_
                  rotate_left
                  · show Act.put _ (some 48) _ = _
                    simp only [Act.put, List.setIfInBounds_toArray, List.set_cons_zero, List.set_cons_succ, i64_w, i32_w]
                    rfl
                  refine pure_ (i := 13) (N := some 49) (v := ?_) (a' := ?_) #[true, true, true, true, true, true, true, true, true, true, true, true, true, true] rfl rfl (any_of HT_.out (by kernel_rfl)) (fun _ _ _ h => h) (Or.inl ⟨by rfl, ?_⟩) ?_ ?_
                  rotate_left
                  · intro w'
                    go_simp
                    with_reducible rfl
                  rotate_left
                  · simp only [Act.put, List.setIfInBounds_toArray, List.set_cons_zero, List.set_cons_succ, i64_w, i32_w]
                    rfl
                  refine done_ (done_of HT_.out (by kernel_rfl)) ?_
                  try go_wp2
                  have n0_ := Aside0.mk (Kd.R_drew HO173.out)
                  have n1_ := Aside0.mk (blk_drew BK165.out)
                  have n2_ := Aside0.mk (Kd.C_drew HR180.out)
                  have n3_ := Aside0.mk (below_drew1 HB.out)
                  clear HO173
                  clear BK165
                  clear HR180
                  clear HB
                  have HO173 := n0_
                  have BK165 := n1_
                  have HR180 := n2_
                  have HB := n3_
                  clear n0_ n1_ n2_ n3_
                  refine start_ (n := 8) (S := fun w' => w'.cell? ⟨gb165, 0, none⟩ = some (.int .u64 a0_0) ∧ w'.cell? ⟨gb165, 1, none⟩ = some (.int .i64 a0_1) ∧ w'.cell? ⟨gb165, 2, none⟩ = some (.int .i64 a0_2) ∧ w'.cell? ⟨gb165, 3, none⟩ = some (.int .i64 a0_3) ∧ w'.cell? ⟨gb165, 4, none⟩ = some (.slice A0_4 l0_4.length c0_4) ∧ w'.cell? ⟨gb165, 5, none⟩ = some (.int .u64 a0_5) ∧ w'.cell? ⟨gb165, 6, none⟩ = some (.bool a0_6)) (ds := []) #[false, false, false, false, false, false, false, false] (by kernel_rfl) rfl rfl ⟨(blk_cell BK165.out 0).trans rfl, (blk_cell BK165.out 1).trans rfl, (blk_cell BK165.out 2).trans rfl, (blk_cell BK165.out 3).trans rfl, (blk_cell BK165.out 4).trans rfl, (blk_cell BK165.out 5).trans rfl, (blk_cell BK165.out 6).trans rfl⟩ (fun hHeld => ?_); refine with_tabW croftlaw11_OracleBounds.tab10 croftlaw11_OracleBounds.bits10 (fun HT_ HW_ => ?_)
                  generalize w39.drew = w40 at HO173 BK165 HR180 HB hHeld ⊢
                  refine pure_ (i := 0) (N := some 50) (v := ?_) (a' := ?_) #[true, false, false, false, false, false, false, false] rfl rfl (any_of HT_.out (by kernel_rfl)) (fun _ _ _ h => h) (Or.inl ⟨by rfl, ?_⟩) ?_ ?_
                  rotate_left
                  · intro w'
                    go_simp
                    with_reducible rfl
                  rotate_left
                  · simp only [Act.put, List.setIfInBounds_toArray, List.set_cons_zero, List.set_cons_succ, i64_w, i32_w]
                    rfl
                  refine pure_ (i := 3) (N := some 53) (v := ?_) (a' := ?_) #[true, false, false, true, false, false, false, false] rfl rfl (any_of HT_.out (by kernel_rfl)) (fun _ _ _ h => h) (Or.inl ⟨by rfl, ?_⟩) ?_ ?_
                  rotate_left
                  · intro w'
                    go_simp
                    with_reducible rfl
                  rotate_left
                  · simp only [Act.put, List.setIfInBounds_toArray, List.set_cons_zero, List.set_cons_succ, i64_w, i32_w]
                    rfl
                  refine take_ (i := 1) (N := some 51) (v := ?_) (a' := ?_) #[true, true, false, true, false, false, false, false] rfl rfl (take_ofW HT_.out HW_.out (by kernel_rfl)) (fun _ _ _ h => h) (Or.inl ⟨by rfl, ?_⟩) hHeld ?_ ?_
                  rotate_left
                  · rintro w' ⟨s0, s1, s2, s3, s4, s5, s6⟩
                    go_simp
                    with_reducible rfl
                  rotate_left
                  · simp only [Act.put, List.setIfInBounds_toArray, List.set_cons_zero, List.set_cons_succ, i64_w, i32_w]
                    rfl
                  refine pure_ (i := 2) (N := some 52) (v := ?_) (a' := ?_) #[true, true, true, true, false, false, false, false] rfl rfl (any_of HT_.out (by kernel_rfl)) (fun _ _ _ h => h) (Or.inl ⟨by rfl, ?_⟩) ?_ ?_
                  rotate_left
                  · intro w'
                    go_simp
                    with_reducible rfl
                  rotate_left
                  · simp only [Act.put, List.setIfInBounds_toArray, List.set_cons_zero, List.set_cons_succ, i64_w, i32_w]
                    rfl
                  refine take_ (i := 4) (N := some 54) (v := ?_) (a' := ?_) #[true, true, true, true, true, false, false, false] rfl rfl (take_ofW HT_.out HW_.out (by kernel_rfl)) (fun _ _ _ h => h) (Or.inl ⟨by rfl, ?_⟩) hHeld ?_ ?_
                  rotate_left
                  · rintro w' ⟨s0, s1, s2, s3, s4, s5, s6⟩
                    go_simp
                    with_reducible rfl
                  rotate_left
                  · simp only [Act.put, List.setIfInBounds_toArray, List.set_cons_zero, List.set_cons_succ, i64_w, i32_w]
                    rfl
                  refine one_ (i := 5) (N := some 55) #[true, true, true, true, true, true, false, false] rfl rfl (one_of HT_.out (by kernel_rfl)) (by decide) (fun K hK => ?_)
                  refine goes_ Try.func24 (by kernel_rfl) rfl #[.agg #[.int .u64 a0_0, .int .i64 a0_1, .int .i64 a0_2]] (by rfl) rfl rfl (by (try simp only [List.map_toArray, List.map_cons, List.map_nil]); first | done | rfl | (simp only [List.length_drop, List.length_take]; rfl)) ?_
                  with_reducible refine (croftref11_R.calls a0_0 a0_1 a0_2 t182 _ A20.out).mono ?_
                  rintro e w41 ⟨rfl, hb⟩
                  refine ⟨_, rfl, ?_⟩
                  have n0_ := Aside0.mk (Kd.R_below (by (with_reducible repeat (first | apply Kd.R_alloc | apply Kd.R_drewN | apply Kd.R_drew)); exact HO173.out) hb)
                  have n1_ := Aside0.mk (blk_below (g := gb165) (o := .cells #[.int .u64 a0_0, .int .i64 a0_1, .int .i64 a0_2, .int .i64 a0_3, .slice A0_4 l0_4.length c0_4, .int .u64 a0_5, .bool a0_6] 44 (0, 0)) (by (with_reducible repeat (first | refine blk_drewN ?_ _ | refine blk_drew ?_ | refine blk_alloc ?_ _)); exact BK165.out) hb)
                  have n2_ := Aside0.mk (Kd.C_below (by repeat (first | (with_reducible exact HR180.out) | (with_reducible refine Kd.C_alloc ?_ _) | (with_reducible refine Kd.C_drewN ?_ _) | (with_reducible refine Kd.C_drew ?_) | exact HR180.out)) hb)
                  have n3_ := Aside0.mk (below_step (by repeat (first | (with_reducible first | exact HB.out | apply below_alloc | apply pw_below_drewN | apply below_drew1 | refine below_set ?_ GE165.out) | exact HB.out)) hb)
                  clear HO173
                  clear BK165
                  clear HR180
                  clear HB
                  have HO173 := n0_
                  have BK165 := n1_
                  have HR180 := n2_
                  have HB := n3_
                  clear n0_ n1_ n2_ n3_
                  (try clear hb)
                  (try clear hb2)
                  (try clear hk)
                  (try clear hi)
                  refine hK.out _ _ ⟨(blk_cell BK165.out 0).trans rfl, (blk_cell BK165.out 1).trans rfl, (blk_cell BK165.out 2).trans rfl, (blk_cell BK165.out 3).trans rfl, (blk_cell BK165.out 4).trans rfl, (blk_cell BK165.out 5).trans rfl, (blk_cell BK165.out 6).trans rfl⟩ (fun hHeld => ?_)
                  clear hK K
                  refine norm_ (a' := ?_) ?_ ?_
                  rotate_left
                  · show Act.put _ (some 55) _ = _
                    simp only [Act.put, List.setIfInBounds_toArray, List.set_cons_zero, List.set_cons_succ, i64_w, i32_w]
                    rfl
                  refine pure_ (i := 6) (N := some 56) (v := ?_) (a' := ?_) #[true, true, true, true, true, true, true, false] rfl rfl (any_of HT_.out (by kernel_rfl)) (fun _ _ _ h => h) (Or.inl ⟨by rfl, ?_⟩) ?_ ?_
                  rotate_left
                  · intro w'
                    go_simp
                    with_reducible rfl
                  rotate_left
                  · simp only [Act.put, List.setIfInBounds_toArray, List.set_cons_zero, List.set_cons_succ, i64_w, i32_w]
                    rfl
                  refine pure_ (i := 7) (N := some 8) (v := ?_) (a' := ?_) #[true, true, true, true, true, true, true, true] rfl rfl (any_of HT_.out (by kernel_rfl)) (fun _ _ _ h => h) (Or.inl ⟨by rfl, ?_⟩) ?_ ?_
                  rotate_left
                  · intro w'
                    go_simp
                    with_reducible rfl
                  rotate_left
                  · simp only [Act.put, List.setIfInBounds_toArray, List.set_cons_zero, List.set_cons_succ, i64_w, i32_w]
                    rfl
                  refine done_ (done_of HT_.out (by kernel_rfl)) ?_
                  have hcz42_0 : w41.cell? ⟨gb165, 0, none⟩ = some (.int .u64 a0_0) := (blk_cell BK165.out 0).trans rfl
                  have hcz42_1 : w41.cell? ⟨gb165, 1, none⟩ = some (.int .i64 a0_1) := (blk_cell BK165.out 1).trans rfl
                  have hcz42_2 : w41.cell? ⟨gb165, 2, none⟩ = some (.int .i64 a0_2) := (blk_cell BK165.out 2).trans rfl
                  have hcz42_3 : w41.cell? ⟨gb165, 3, none⟩ = some (.int .i64 a0_3) := (blk_cell BK165.out 3).trans rfl
                  have hcz42_4 : w41.cell? ⟨gb165, 4, none⟩ = some (.slice A0_4 l0_4.length c0_4) := (blk_cell BK165.out 4).trans rfl
                  have hcz42_5 : w41.cell? ⟨gb165, 5, none⟩ = some (.int .u64 a0_5) := (blk_cell BK165.out 5).trans rfl
                  have hcz42_6 : w41.cell? ⟨gb165, 6, none⟩ = some (.bool a0_6) := (blk_cell BK165.out 6).trans rfl
                  have hfz42_0 := blk_frozen BK165.out 0
                  have hfz42_1 := blk_frozen BK165.out 1
                  have hfz42_2 := blk_frozen BK165.out 2
                  have hfz42_3 := blk_frozen BK165.out 3
                  have hfz42_4 := blk_frozen BK165.out 4
                  have hfz42_5 := blk_frozen BK165.out 5
                  have hfz42_6 := blk_frozen BK165.out 6
                  try go_wp2_with (first | ((with_reducible refine gate_callee (f := 32) rfl ?_); refine goesL_ (some 59) rfl rfl Try.func32 (by kernel_rfl) rfl #[.slice A0_4 l0_4.length c0_4] rfl (by (try simp only [List.map_toArray, List.map_cons, List.map_nil]); first | done | rfl | (simp only [List.length_drop, List.length_take]; rfl)) ?_; (with_reducible refine (croftref11_Total.calls kj5 _ _ l0_4 t183 _ ?side1 ?side2 A21.out).mono ?_); (case side1 => repeat (first | exact (Kd.C_below HR0_4.out HB.out) | (with_reducible refine Kd.C_alloc ?_ _) | (with_reducible refine Kd.C_drewN ?_ _) | (with_reducible refine Kd.C_drew ?_))); (case side2 => exact HC0_4.out); rintro e w' ⟨rfl, ⟨nd, rfl⟩⟩; refine ⟨_, rfl, ?_⟩))
                  go_loopg [10] kj5 (fun kq v10 w' => ∃ (x10_2 : Int), v10 = .int .i64 x10_2 ∧ Aside0 (croftlaw11_OracleBounds.l0 kq t167 (IntKind.u64.wrap ((IntKind.u64.wrap (a0_3)) * t182)) t183 x10_2 a0_0 a0_1 a0_2 a0_3 l0_4 a0_5 a0_6 = some r) ∧ Aside0 (kq ≤ kj5) ∧ Aside0 (w'.heap[gb165]? = some (.cells #[.int .u64 a0_0, .int .i64 a0_1, .int .i64 a0_2, .int .i64 a0_3, (.slice A0_4 l0_4.length c0_4), .int .u64 a0_5, .bool a0_6] 44 (0, 0))) ∧ Aside0 (Kd.C k55 w' Ao37 y177.length y177) ∧ Aside0 (Below w.heap.size w w'))
                  case atStart => exact ⟨(0), (by first | rfl | (simp; done) | (simp [*]; done)), H', ⟨Nat.le_refl _⟩, ⟨by (with_reducible repeat (first | refine blk_drewN ?_ _ | refine blk_drew ?_ | refine blk_alloc ?_ _)); exact BK165.out⟩, ⟨by repeat (first | (with_reducible exact HR180.out) | (with_reducible refine Kd.C_alloc ?_ _) | (with_reducible refine Kd.C_drewN ?_ _) | (with_reducible refine Kd.C_drew ?_) | exact HR180.out)⟩, ⟨by repeat (first | (with_reducible first | exact HB.out | apply below_alloc | apply pw_below_drewN | apply below_drew1 | refine below_set ?_ GE165.out) | exact HB.out)⟩⟩
                  case round =>
                    clear H'
                    try clear c1
                    try clear c2
                    try clear p2
                    try clear c3
                    try clear q3
                    try clear c13
                    try clear c15
                    try clear c22
                    try clear c22b0
                    try clear c23
                    try clear c24
                    try clear c32
                    try clear q36
                    try clear hcz32_0
                    try clear hcz32_1
                    try clear hcz32_2
                    try clear hcz32_3
                    try clear hcz32_4
                    try clear hcz32_5
                    try clear hcz32_6
                    try clear hcz33_0
                    try clear hcz33_1
                    try clear hcz33_2
                    try clear hcz33_3
                    try clear hcz33_4
                    try clear hcz33_5
                    try clear hcz33_6
                    try clear hcz42_0
                    try clear hcz42_1
                    try clear hcz42_2
                    try clear hcz42_3
                    try clear hcz42_4
                    try clear hcz42_5
                    try clear hcz42_6
                    try clear hfz32_0
                    try clear hfz32_1
                    try clear hfz32_2
                    try clear hfz32_3
                    try clear hfz32_4
                    try clear hfz32_5
                    try clear hfz32_6
                    try clear hfz33_0
                    try clear hfz33_1
                    try clear hfz33_2
                    try clear hfz33_3
                    try clear hfz33_4
                    try clear hfz33_5
                    try clear hfz33_6
                    try clear hfz42_0
                    try clear hfz42_1
                    try clear hfz42_2
                    try clear hfz42_3
                    try clear hfz42_4
                    try clear hfz42_5
                    try clear hfz42_6
                    try clear q36
                    obtain ⟨x10_2, rfl, HA, HK2, BK165, HR180, HB⟩ := hrel
                    cases gk with
                    | zero => exact absurd HA.out (by simp [croftlaw11_OracleBounds.l0])
                    | succ k2 =>
                      have H := HA.out
                      clear HA
                      simp only [croftlaw11_OracleBounds.l0] at H
                      by_cases c43 : x10_2 < (l0_4.length : Int)
                      · rw [if_pos c43] at H
                        have c43b0 : decide (x10_2 < (l0_4.length : Int)) = true := decide_eq_true c43
                        clear c43
                        by_cases c44 : 0 ≤ x10_2
                        · rw [if_pos c44] at H
                          have c44b0 : decide (0 ≤ x10_2) = true := decide_eq_true c44
                          clear c44
                          by_cases c45 : ((rd_T49 l0_4 x10_2).f1) < 4096
                          · rw [if_pos c45] at H
                            have c45b0 : decide (((rd_T49 l0_4 x10_2).f1) < 4096) = true := decide_eq_true c45
                            clear c45
                            obtain rfl := Option.some.inj H
                            have hcz46_0 : wr.cell? ⟨gb165, 0, none⟩ = some (.int .u64 a0_0) := (blk_cell BK165.out 0).trans rfl
                            have hcz46_1 : wr.cell? ⟨gb165, 1, none⟩ = some (.int .i64 a0_1) := (blk_cell BK165.out 1).trans rfl
                            have hcz46_2 : wr.cell? ⟨gb165, 2, none⟩ = some (.int .i64 a0_2) := (blk_cell BK165.out 2).trans rfl
                            have hcz46_3 : wr.cell? ⟨gb165, 3, none⟩ = some (.int .i64 a0_3) := (blk_cell BK165.out 3).trans rfl
                            have hcz46_4 : wr.cell? ⟨gb165, 4, none⟩ = some (.slice A0_4 l0_4.length c0_4) := (blk_cell BK165.out 4).trans rfl
                            have hcz46_5 : wr.cell? ⟨gb165, 5, none⟩ = some (.int .u64 a0_5) := (blk_cell BK165.out 5).trans rfl
                            have hcz46_6 : wr.cell? ⟨gb165, 6, none⟩ = some (.bool a0_6) := (blk_cell BK165.out 6).trans rfl
                            have hfz46_0 := blk_frozen BK165.out 0
                            have hfz46_1 := blk_frozen BK165.out 1
                            have hfz46_2 := blk_frozen BK165.out 2
                            have hfz46_3 := blk_frozen BK165.out 3
                            have hfz46_4 := blk_frozen BK165.out 4
                            have hfz46_5 := blk_frozen BK165.out 5
                            have hfz46_6 := blk_frozen BK165.out 6
                            have p184 : 0 ≤ (x10_2 : Int) := of_decide_eq_true (by first | (with_reducible assumption) | assumption)
                            have q184 : x10_2 < (l0_4.length : Int) := of_decide_eq_true (by first | (with_reducible assumption) | assumption)
                            obtain ⟨ad184, e184, hx184_0, hx184_1⟩ := at_T49 HR0_4.out x10_2 p184 q184
                            cases e184
                            replace hx184_0 := (HB.out.cell (World.block_lt_of_cell? w _ hx184_0)).trans hx184_0
                            replace hx184_1 := (HB.out.cell (World.block_lt_of_cell? w _ hx184_1)).trans hx184_1
                            replace p184 := eq_true p184
                            replace q184 := eq_true q184
                            go_wp2
                            go_ret
                            exact ⟨by first | rfl | (simp [errW_none, errW_some] <;> rfl) | (simp [*, errW_none, errW_some] <;> rfl), by repeat (first | (with_reducible first | exact HB.out | apply below_alloc | apply pw_below_drewN | apply below_drew1 | refine below_set ?_ GE165.out) | exact HB.out)⟩
                          · rw [if_neg c45] at H
                            have c45b0 : decide (((rd_T49 l0_4 x10_2).f1) < 4096) = false := decide_eq_false c45
                            clear c45
                            have H' := Aside0.mk H
                            clear H
                            have hcz47_0 : wr.cell? ⟨gb165, 0, none⟩ = some (.int .u64 a0_0) := (blk_cell BK165.out 0).trans rfl
                            have hcz47_1 : wr.cell? ⟨gb165, 1, none⟩ = some (.int .i64 a0_1) := (blk_cell BK165.out 1).trans rfl
                            have hcz47_2 : wr.cell? ⟨gb165, 2, none⟩ = some (.int .i64 a0_2) := (blk_cell BK165.out 2).trans rfl
                            have hcz47_3 : wr.cell? ⟨gb165, 3, none⟩ = some (.int .i64 a0_3) := (blk_cell BK165.out 3).trans rfl
                            have hcz47_4 : wr.cell? ⟨gb165, 4, none⟩ = some (.slice A0_4 l0_4.length c0_4) := (blk_cell BK165.out 4).trans rfl
                            have hcz47_5 : wr.cell? ⟨gb165, 5, none⟩ = some (.int .u64 a0_5) := (blk_cell BK165.out 5).trans rfl
                            have hcz47_6 : wr.cell? ⟨gb165, 6, none⟩ = some (.bool a0_6) := (blk_cell BK165.out 6).trans rfl
                            have hfz47_0 := blk_frozen BK165.out 0
                            have hfz47_1 := blk_frozen BK165.out 1
                            have hfz47_2 := blk_frozen BK165.out 2
                            have hfz47_3 := blk_frozen BK165.out 3
                            have hfz47_4 := blk_frozen BK165.out 4
                            have hfz47_5 := blk_frozen BK165.out 5
                            have hfz47_6 := blk_frozen BK165.out 6
                            have p184 : 0 ≤ (x10_2 : Int) := of_decide_eq_true (by first | (with_reducible assumption) | assumption)
                            have q184 : x10_2 < (l0_4.length : Int) := of_decide_eq_true (by first | (with_reducible assumption) | assumption)
                            obtain ⟨ad184, e184, hx184_0, hx184_1⟩ := at_T49 HR0_4.out x10_2 p184 q184
                            cases e184
                            replace hx184_0 := (HB.out.cell (World.block_lt_of_cell? w _ hx184_0)).trans hx184_0
                            replace hx184_1 := (HB.out.cell (World.block_lt_of_cell? w _ hx184_1)).trans hx184_1
                            replace p184 := eq_true p184
                            replace q184 := eq_true q184
                            go_wp2
                            go_roundg k2
                            case measure => have := HJ5.out; have := HK2.out; omega
                            case rel => exact ⟨(wrap64 (x10_2 + 1)), (by first | rfl | (simp; done) | (simp [*]; done)), H', ⟨by have := HJ5.out; have := HK2.out; omega⟩, ⟨by (with_reducible repeat (first | refine blk_drewN ?_ _ | refine blk_drew ?_ | refine blk_alloc ?_ _)); exact BK165.out⟩, ⟨by repeat (first | (with_reducible exact HR180.out) | (with_reducible refine Kd.C_alloc ?_ _) | (with_reducible refine Kd.C_drewN ?_ _) | (with_reducible refine Kd.C_drew ?_) | exact HR180.out)⟩, ⟨by repeat (first | (with_reducible first | exact HB.out | apply below_alloc | apply pw_below_drewN | apply below_drew1 | refine below_set ?_ GE165.out) | exact HB.out)⟩⟩
                        · rw [if_neg c44] at H
                          exact absurd H (by simp)
                      · rw [if_neg c43] at H
                        have c43b0 : decide (x10_2 < (l0_4.length : Int)) = false := decide_eq_false c43
                        clear c43
                        obtain rfl := Option.some.inj H
                        have hcz48_0 : wr.cell? ⟨gb165, 0, none⟩ = some (.int .u64 a0_0) := (blk_cell BK165.out 0).trans rfl
                        have hcz48_1 : wr.cell? ⟨gb165, 1, none⟩ = some (.int .i64 a0_1) := (blk_cell BK165.out 1).trans rfl
                        have hcz48_2 : wr.cell? ⟨gb165, 2, none⟩ = some (.int .i64 a0_2) := (blk_cell BK165.out 2).trans rfl
                        have hcz48_3 : wr.cell? ⟨gb165, 3, none⟩ = some (.int .i64 a0_3) := (blk_cell BK165.out 3).trans rfl
                        have hcz48_4 : wr.cell? ⟨gb165, 4, none⟩ = some (.slice A0_4 l0_4.length c0_4) := (blk_cell BK165.out 4).trans rfl
                        have hcz48_5 : wr.cell? ⟨gb165, 5, none⟩ = some (.int .u64 a0_5) := (blk_cell BK165.out 5).trans rfl
                        have hcz48_6 : wr.cell? ⟨gb165, 6, none⟩ = some (.bool a0_6) := (blk_cell BK165.out 6).trans rfl
                        have hfz48_0 := blk_frozen BK165.out 0
                        have hfz48_1 := blk_frozen BK165.out 1
                        have hfz48_2 := blk_frozen BK165.out 2
                        have hfz48_3 := blk_frozen BK165.out 3
                        have hfz48_4 := blk_frozen BK165.out 4
                        have hfz48_5 := blk_frozen BK165.out 5
                        have hfz48_6 := blk_frozen BK165.out 6
                        go_wp2
                        go_ret
                        exact ⟨by first | rfl | (simp [errW_none, errW_some] <;> rfl) | (simp [*, errW_none, errW_some] <;> rfl), by repeat (first | (with_reducible first | exact HB.out | apply below_alloc | apply pw_below_drewN | apply below_drew1 | refine below_set ?_ GE165.out) | exact HB.out)⟩
              · replace c19 := Bool.eq_false_iff.mpr c19
                subst c19
                have H1 : (some true) = some r := by rw [if_neg (show ¬ (false = true) by decide)] at H; exact H
                clear H
                have H := H1
                clear H1
                obtain rfl := Option.some.inj H
                have hcz49_0 : wc.cell? ⟨gb165, 0, none⟩ = some (.int .u64 a0_0) := (blk_cell BK165.out 0).trans rfl
                have hcz49_1 : wc.cell? ⟨gb165, 1, none⟩ = some (.int .i64 a0_1) := (blk_cell BK165.out 1).trans rfl
                have hcz49_2 : wc.cell? ⟨gb165, 2, none⟩ = some (.int .i64 a0_2) := (blk_cell BK165.out 2).trans rfl
                have hcz49_3 : wc.cell? ⟨gb165, 3, none⟩ = some (.int .i64 a0_3) := (blk_cell BK165.out 3).trans rfl
                have hcz49_4 : wc.cell? ⟨gb165, 4, none⟩ = some (.slice A0_4 l0_4.length c0_4) := (blk_cell BK165.out 4).trans rfl
                have hcz49_5 : wc.cell? ⟨gb165, 5, none⟩ = some (.int .u64 a0_5) := (blk_cell BK165.out 5).trans rfl
                have hcz49_6 : wc.cell? ⟨gb165, 6, none⟩ = some (.bool a0_6) := (blk_cell BK165.out 6).trans rfl
                have hfz49_0 := blk_frozen BK165.out 0
                have hfz49_1 := blk_frozen BK165.out 1
                have hfz49_2 := blk_frozen BK165.out 2
                have hfz49_3 := blk_frozen BK165.out 3
                have hfz49_4 := blk_frozen BK165.out 4
                have hfz49_5 := blk_frozen BK165.out 5
                have hfz49_6 := blk_frozen BK165.out 6
                try go_wp2_with (first | ((with_reducible refine gate_callee (f := 13) rfl ?_); refine goesL_ (some 35) rfl rfl Try.func13 (by kernel_rfl) rfl #[.slice A0_4 l0_4.length c0_4] rfl (by (try simp only [List.map_toArray, List.map_cons, List.map_nil]); first | done | rfl | (simp only [List.length_drop, List.length_take]; rfl)) ?_; (with_reducible refine (croftlaw11_blocks.calls kj5 _ _ l0_4 t171 _ ?side1 ?side2 A14.out).mono ?_); (case side1 => repeat (first | exact (Kd.C_below HR0_4.out HB.out) | (with_reducible refine Kd.C_alloc ?_ _) | (with_reducible refine Kd.C_drewN ?_ _) | (with_reducible refine Kd.C_drew ?_))); (case side2 => exact HC0_4.out); rintro e w50 ⟨v172, rfl, ho0, hb⟩; refine ⟨_, rfl, ?_⟩; have n0_ := Aside0.mk (Kd.R_lower ho0 (below_size (by repeat (first | (with_reducible first | exact HB.out | apply below_alloc | apply pw_below_drewN | apply below_drew1 | refine below_set ?_ GE165.out) | exact HB.out)))); have n1_ := Aside0.mk (blk_below (g := gb165) (o := .cells #[.int .u64 a0_0, .int .i64 a0_1, .int .i64 a0_2, .int .i64 a0_3, .slice A0_4 l0_4.length c0_4, .int .u64 a0_5, .bool a0_6] 44 (0, 0)) (by (with_reducible repeat (first | refine blk_drewN ?_ _ | refine blk_drew ?_ | refine blk_alloc ?_ _)); exact BK165.out) hb); have n2_ := Aside0.mk (below_step (by repeat (first | (with_reducible first | exact HB.out | apply below_alloc | apply pw_below_drewN | apply below_drew1 | refine below_set ?_ GE165.out) | exact HB.out)) hb); clear BK165; clear HB; have HO173 := n0_; have BK165 := n1_; have HB := n2_; clear n0_ n1_ n2_; (try clear hb); (try clear hb2); (try clear hk); (try clear hi); (try clear ho0)))
                have n0_ := Aside0.mk (Kd.R_drew HO173.out)
                have n1_ := Aside0.mk (blk_drew BK165.out)
                have n2_ := Aside0.mk (below_drew1 HB.out)
                clear HO173
                clear BK165
                clear HB
                have HO173 := n0_
                have BK165 := n1_
                have HB := n2_
                clear n0_ n1_ n2_
                obtain ⟨Ao53, co53, eo53⟩ := Kd.R_slice HO173.out
                (first | subst eo53 | (injection eo53 with f1_ f2_ f3_; have f4_ := f1_.symm; have f5_ := f3_.symm; clear f1_ f2_ f3_; subst f4_; subst f5_))
                have q52 : ((l0_4.length : Int) : Int) ≤ ((t171.length : Int) : Int) := of_decide_eq_true (by first | (with_reducible assumption) | assumption)
                obtain ⟨i052, hi052, _, hsz52, _⟩ := info_parts info55
                have hroom52 : t171.length ≤ co53 := (Kd.R_reads' HO173.out).2.1
                have hC52 : Kd.C k55 _ Ao53 t171.length t171 := (Kd.R_reads' HO173.out).2.2
                have hcut52 := cut_to (P := Try.prog) 26 55 .i64 Try.underlying26 hi052 Ao53 t171.length co53 (l0_4.length : Int) (of_decide_eq_true (by first | (with_reducible assumption) | assumption)) q52 hroom52
                have hr52 := Kd.C_take (m := ((l0_4.length : Int) : Int).toNat) hC52 (by omega)
                have hy52 : y177.length = ((l0_4.length : Int) : Int).toNat := (by rw [Ny177.out, List.length_take]; omega)
                rw [← Ny177.out] at hr52
                rw [← hy52] at hcut52
                have HR180 := Aside0.mk hr52
                have HC180 := Aside0.mk (show y177.length ≤ co53 from by omega)
                clear hr52 hC52 hroom52 hi052 hsz52
                have KY52 := Aside0.mk hy52
                clear hy52
                have KL52 := Aside0.mk (show ((l0_4.length : Int) : Int).toNat ≤ t171.length from by omega)
                replace q52 := eq_true q52
                refine start_ (n := 14) (S := fun w' => w'.cell? ⟨gb165, 0, none⟩ = some (.int .u64 a0_0) ∧ w'.cell? ⟨gb165, 1, none⟩ = some (.int .i64 a0_1) ∧ w'.cell? ⟨gb165, 2, none⟩ = some (.int .i64 a0_2) ∧ w'.cell? ⟨gb165, 3, none⟩ = some (.int .i64 a0_3) ∧ w'.cell? ⟨gb165, 4, none⟩ = some (.slice A0_4 l0_4.length c0_4) ∧ w'.cell? ⟨gb165, 5, none⟩ = some (.int .u64 a0_5) ∧ w'.cell? ⟨gb165, 6, none⟩ = some (.bool a0_6)) (ds := []) #[false, false, false, false, false, false, false, false, false, false, false, false, false, false] (by kernel_rfl) rfl rfl ⟨(blk_cell BK165.out 0).trans rfl, (blk_cell BK165.out 1).trans rfl, (blk_cell BK165.out 2).trans rfl, (blk_cell BK165.out 3).trans rfl, (blk_cell BK165.out 4).trans rfl, (blk_cell BK165.out 5).trans rfl, (blk_cell BK165.out 6).trans rfl⟩ (fun hHeld => ?_); refine with_tabW croftlaw11_OracleBounds.tab8 croftlaw11_OracleBounds.bits8 (fun HT_ HW_ => ?_)
                generalize w50.drew = w51 at HO173 BK165 HB HR180 hHeld ⊢
                refine pure_ (i := 0) (N := some 36) (v := ?_) (a' := ?_) #[true, false, false, false, false, false, false, false, false, false, false, false, false, false] rfl rfl (any_of HT_.out (by kernel_rfl)) (fun _ _ _ h => h) (Or.inl ⟨by rfl, ?_⟩) ?_ ?_
                rotate_left
                · intro w'
                  go_simp
                  with_reducible rfl
                rotate_left
                · simp only [Act.put, List.setIfInBounds_toArray, List.set_cons_zero, List.set_cons_succ, i64_w, i32_w]
                  rfl
                refine pure_ (i := 3) (N := some 39) (v := ?_) (a' := ?_) #[true, false, false, true, false, false, false, false, false, false, false, false, false, false] rfl rfl (any_of HT_.out (by kernel_rfl)) (fun _ _ _ h => h) (Or.inl ⟨by rfl, ?_⟩) ?_ ?_
                rotate_left
                · intro w'
                  go_simp
                  with_reducible rfl
                rotate_left
                · simp only [Act.put, List.setIfInBounds_toArray, List.set_cons_zero, List.set_cons_succ, i64_w, i32_w]
                  rfl
                refine pure_ (i := 5) (N := some 41) (v := ?_) (a' := ?_) #[true, false, false, true, false, true, false, false, false, false, false, false, false, false] rfl rfl (any_of HT_.out (by kernel_rfl)) (fun _ _ _ h => h) (Or.inl ⟨by rfl, ?_⟩) ?_ ?_
                rotate_left
                · intro w'
                  go_simp
                  with_reducible rfl
                rotate_left
                · simp only [Act.put, List.setIfInBounds_toArray, List.set_cons_zero, List.set_cons_succ, i64_w, i32_w]
                  rfl
                refine pure_ (i := 6) (N := some 42) (v := ?_) (a' := ?_) #[true, false, false, true, false, true, true, false, false, false, false, false, false, false] rfl rfl (any_of HT_.out (by kernel_rfl)) (fun _ _ _ h => h) (Or.inl ⟨by rfl, ?_⟩) ?_ ?_
                rotate_left
                · intro w'
                  go_simp
                  with_reducible rfl
                rotate_left
                · simp only [Act.put, List.setIfInBounds_toArray, List.set_cons_zero, List.set_cons_succ, i64_w, i32_w]
                  rfl
                refine pure_ (i := 10) (N := some 46) (v := ?_) (a' := ?_) #[true, false, false, true, false, true, true, false, false, false, true, false, false, false] rfl rfl (any_of HT_.out (by kernel_rfl)) (fun _ _ _ h => h) (Or.inl ⟨by rfl, ?_⟩) ?_ ?_
                rotate_left
                · intro w'
                  go_simp
                  with_reducible rfl
                rotate_left
                · simp only [Act.put, List.setIfInBounds_toArray, List.set_cons_zero, List.set_cons_succ, i64_w, i32_w]
                  rfl
                refine take_ (i := 1) (N := some 37) (v := ?_) (a' := ?_) #[true, true, false, true, false, true, true, false, false, false, true, false, false, false] rfl rfl (take_ofW HT_.out HW_.out (by kernel_rfl)) (fun _ _ _ h => h) (Or.inl ⟨by rfl, ?_⟩) hHeld ?_ ?_
                rotate_left
                · rintro w' ⟨s0, s1, s2, s3, s4, s5, s6⟩
                  go_simp
                  with_reducible rfl
                rotate_left
                · simp only [Act.put, List.setIfInBounds_toArray, List.set_cons_zero, List.set_cons_succ, i64_w, i32_w]
                  rfl
                refine take_ (i := 4) (N := some 40) (v := ?_) (a' := ?_) #[true, true, false, true, true, true, true, false, false, false, true, false, false, false] rfl rfl (take_ofW HT_.out HW_.out (by kernel_rfl)) (fun _ _ _ h => h) (Or.inl ⟨by rfl, ?_⟩) hHeld ?_ ?_
                rotate_left
                · rintro w' ⟨s0, s1, s2, s3, s4, s5, s6⟩
                  go_simp
                  with_reducible rfl
                rotate_left
                · simp only [Act.put, List.setIfInBounds_toArray, List.set_cons_zero, List.set_cons_succ, i64_w, i32_w]
                  rfl
                refine take_ (i := 7) (N := some 43) (v := ?_) (a' := ?_) #[true, true, false, true, true, true, true, true, false, false, true, false, false, false] rfl rfl (take_ofW HT_.out HW_.out (by kernel_rfl)) (fun _ _ _ h => h) (Or.inl ⟨by rfl, ?_⟩) hHeld ?_ ?_
                rotate_left
                · rintro w' ⟨s0, s1, s2, s3, s4, s5, s6⟩
                  go_simp
                  with_reducible rfl
                rotate_left
                · simp only [Act.put, List.setIfInBounds_toArray, List.set_cons_zero, List.set_cons_succ, i64_w, i32_w]
                  rfl
                refine pure_ (i := 8) (N := some 44) (v := ?_) (a' := ?_) #[true, true, false, true, true, true, true, true, true, false, true, false, false, false] rfl rfl (any_of HT_.out (by kernel_rfl)) (fun _ _ _ h => h) (Or.inl ⟨by rfl, ?_⟩) ?_ ?_
                rotate_left
                · intro w'
                  go_simp
                  with_reducible rfl
                rotate_left
                · simp only [Act.put, List.setIfInBounds_toArray, List.set_cons_zero, List.set_cons_succ, i64_w, i32_w]
                  rfl
                refine pure_ (i := 9) (N := some 45) (v := ?_) (a' := ?_) #[true, true, false, true, true, true, true, true, true, true, true, false, false, false] rfl rfl (any_of HT_.out (by kernel_rfl)) (fun _ _ _ h => h) (Or.inl ⟨by rfl, ?_⟩) ?_ ?_
                rotate_left
                · intro w'
                  go_simp
                  with_reducible rfl
                rotate_left
                · simp only [Act.put, List.setIfInBounds_toArray, List.set_cons_zero, List.set_cons_succ, i64_w, i32_w]
                  rfl
                refine take_ (i := 11) (N := some 47) (v := ?_) (a' := ?_) #[true, true, false, true, true, true, true, true, true, true, true, true, false, false] rfl rfl (take_ofW HT_.out HW_.out (by kernel_rfl)) (fun _ _ _ h => h) (Or.inl ⟨by rfl, ?_⟩) hHeld ?_ ?_
                rotate_left
                · rintro w' ⟨s0, s1, s2, s3, s4, s5, s6⟩
                  go_simp
                  with_reducible rfl
                rotate_left
                · simp only [Act.put, List.setIfInBounds_toArray, List.set_cons_zero, List.set_cons_succ, i64_w, i32_w]
                  rfl
                refine one_ (i := 2) (N := some 38) #[true, true, true, true, true, true, true, true, true, true, true, true, false, false] rfl rfl (one_of HT_.out (by kernel_rfl)) (by decide) (fun K hK => ?_)
                refine goes_ Try.func15 (by kernel_rfl) rfl #[.agg #[.int .u64 a0_0, .int .i64 a0_1, .int .i64 a0_2]] (by rfl) rfl rfl (by (try simp only [List.map_toArray, List.map_cons, List.map_nil]); first | done | rfl | (simp only [List.length_drop, List.length_take]; rfl)) ?_
                with_reducible refine (croftlaw11_config.calls a0_0 a0_1 a0_2 t174 t175 t176 _ A15.out).mono ?_
                rintro e w54 ⟨rfl, hb⟩
                refine ⟨_, rfl, ?_⟩
                have n0_ := Aside0.mk (Kd.R_below (by (with_reducible repeat (first | apply Kd.R_alloc | apply Kd.R_drewN | apply Kd.R_drew)); exact HO173.out) hb)
                have n1_ := Aside0.mk (blk_below (g := gb165) (o := .cells #[.int .u64 a0_0, .int .i64 a0_1, .int .i64 a0_2, .int .i64 a0_3, .slice A0_4 l0_4.length c0_4, .int .u64 a0_5, .bool a0_6] 44 (0, 0)) (by (with_reducible repeat (first | refine blk_drewN ?_ _ | refine blk_drew ?_ | refine blk_alloc ?_ _)); exact BK165.out) hb)
                have n2_ := Aside0.mk (Kd.C_below (by repeat (first | (with_reducible exact HR180.out) | (with_reducible refine Kd.C_alloc ?_ _) | (with_reducible refine Kd.C_drewN ?_ _) | (with_reducible refine Kd.C_drew ?_) | exact HR180.out)) hb)
                have n3_ := Aside0.mk (below_step (by repeat (first | (with_reducible first | exact HB.out | apply below_alloc | apply pw_below_drewN | apply below_drew1 | refine below_set ?_ GE165.out) | exact HB.out)) hb)
                clear HO173
                clear BK165
                clear HR180
                clear HB
                have HO173 := n0_
                have BK165 := n1_
                have HR180 := n2_
                have HB := n3_
                clear n0_ n1_ n2_ n3_
                (try clear hb)
                (try clear hb2)
                (try clear hk)
                (try clear hi)
                refine hK.out _ _ ⟨(blk_cell BK165.out 0).trans rfl, (blk_cell BK165.out 1).trans rfl, (blk_cell BK165.out 2).trans rfl, (blk_cell BK165.out 3).trans rfl, (blk_cell BK165.out 4).trans rfl, (blk_cell BK165.out 5).trans rfl, (blk_cell BK165.out 6).trans rfl⟩ (fun hHeld => ?_)
                clear hK K
                refine norm_ (a' := ?_) ?_ ?_
                rotate_left
                · show Act.put _ (some 38) _ = _
                  simp only [Act.put, List.setIfInBounds_toArray, List.set_cons_zero, List.set_cons_succ, i64_w, i32_w]
                  rfl
                refine one_ (i := 12) (N := some 48) #[true, true, true, true, true, true, true, true, true, true, true, true, true, false] rfl rfl (one_of HT_.out (by kernel_rfl)) (by decide) (fun K hK => ?_)
                refine goes_ Try.func23 (by kernel_rfl) rfl #[.agg #[.int .u64 t174, .int .i64 t175, .int .i64 t176], .int .i64 a0_3, .slice Ao53 y177.length co53, .int .u64 a0_5] (by rfl) rfl rfl (by (try simp only [List.map_toArray, List.map_cons, List.map_nil]); first | done | rfl | (simp only [List.length_drop, List.length_take]; rfl)) ?_
                with_reducible refine (oracle_NoFit.calls t174 t175 t176 a0_3 _ _ y177 a0_5 false _ ?side1 ?side2 A18.out).mono ?_
                (case side1 => repeat (first | exact (by repeat (first | (with_reducible exact HR180.out) | (with_reducible refine Kd.C_alloc ?_ _) | (with_reducible refine Kd.C_drewN ?_ _) | (with_reducible refine Kd.C_drew ?_) | exact HR180.out)) | (with_reducible refine Kd.C_alloc ?_ _) | (with_reducible refine Kd.C_drewN ?_ _) | (with_reducible refine Kd.C_drew ?_)))
                (case side2 => exact HC180.out)
                rintro e w55 ⟨rfl, hb⟩
                refine ⟨_, rfl, ?_⟩
                have n0_ := Aside0.mk (Kd.R_below (by (with_reducible repeat (first | apply Kd.R_alloc | apply Kd.R_drewN | apply Kd.R_drew)); exact HO173.out) hb)
                have n1_ := Aside0.mk (blk_below (g := gb165) (o := .cells #[.int .u64 a0_0, .int .i64 a0_1, .int .i64 a0_2, .int .i64 a0_3, .slice A0_4 l0_4.length c0_4, .int .u64 a0_5, .bool a0_6] 44 (0, 0)) (by (with_reducible repeat (first | refine blk_drewN ?_ _ | refine blk_drew ?_ | refine blk_alloc ?_ _)); exact BK165.out) hb)
                have n2_ := Aside0.mk (Kd.C_below (by repeat (first | (with_reducible exact HR180.out) | (with_reducible refine Kd.C_alloc ?_ _) | (with_reducible refine Kd.C_drewN ?_ _) | (with_reducible refine Kd.C_drew ?_) | exact HR180.out)) hb)
                have n3_ := Aside0.mk (below_step (by repeat (first | (with_reducible first | exact HB.out | apply below_alloc | apply pw_below_drewN | apply below_drew1 | refine below_set ?_ GE165.out) | exact HB.out)) hb)
                clear HO173
                clear BK165
                clear HR180
                clear HB
                have HO173 := n0_
                have BK165 := n1_
                have HR180 := n2_
                have HB := n3_
                clear n0_ n1_ n2_ n3_
                (try clear hb)
                (try clear hb2)
                (try clear hk)
                (try clear hi)
                refine hK.out _ _ ⟨(blk_cell BK165.out 0).trans rfl, (blk_cell BK165.out 1).trans rfl, (blk_cell BK165.out 2).trans rfl, (blk_cell BK165.out 3).trans rfl, (blk_cell BK165.out 4).trans rfl, (blk_cell BK165.out 5).trans rfl, (blk_cell BK165.out 6).trans rfl⟩ (fun hHeld => ?_)
                clear hK K
                refine norm_ (a' := ?_) ?_ ?_
                rotate_left
                · show Act.put _ (some 48) _ = _
                  simp only [Act.put, List.setIfInBounds_toArray, List.set_cons_zero, List.set_cons_succ, i64_w, i32_w]
                  rfl
                refine pure_ (i := 13) (N := some 49) (v := ?_) (a' := ?_) #[true, true, true, true, true, true, true, true, true, true, true, true, true, true] rfl rfl (any_of HT_.out (by kernel_rfl)) (fun _ _ _ h => h) (Or.inl ⟨by rfl, ?_⟩) ?_ ?_
                rotate_left
                · intro w'
                  go_simp
                  with_reducible rfl
                rotate_left
                · simp only [Act.put, List.setIfInBounds_toArray, List.set_cons_zero, List.set_cons_succ, i64_w, i32_w]
                  rfl
                refine done_ (done_of HT_.out (by kernel_rfl)) ?_
                try go_wp2
                go_ret
                exact ⟨by first | rfl | (simp [errW_none, errW_some] <;> rfl) | (simp [*, errW_none, errW_some] <;> rfl), by repeat (first | (with_reducible first | exact HB.out | apply below_alloc | apply pw_below_drewN | apply below_drew1 | refine below_set ?_ GE165.out) | exact HB.out)⟩
            · rw [if_neg c17] at H
              exact absurd H (by simp)
          · rw [if_neg c16] at H
            exact absurd H (by simp)
  · replace c3 := Bool.eq_false_iff.mpr c3
    subst c3
    have H1 : (some false) = some r := by rw [if_neg (show ¬ (false = true) by decide)] at H; exact H
    clear H
    have H := H1
    clear H1
    obtain rfl := Option.some.inj H
    go_enter Try.func10, Try.ntmps10
    go_wp2_with (first | ((with_reducible refine gate_dst (N := 1) rfl ?_); refine box_event ?hg (N := 1) ?hd (cs := #[.int .u64 a0_0, .int .i64 a0_1, .int .i64 a0_2, .int .i64 a0_3, .slice A0_4 l0_4.length c0_4, .int .u64 a0_5, .bool a0_6]) (t := 44) ?hr ?_; (case hd => rfl); (case hg => rfl); (case hr => first | (go_simp; done) | (go_simp; rfl)); intro gb165 hg w56 hbox hb; have n0_ := Aside0.mk (below_step (by repeat (first | (with_reducible first | exact HB.out | apply below_alloc | apply pw_below_drewN | apply below_drew1) | exact HB.out)) hb); have n1_ := Aside0.mk (hbox); have n2_ := Aside0.mk ((by rw [hg]; exact (below_size (by repeat (first | (with_reducible first | exact HB.out | apply below_alloc | apply pw_below_drewN | apply below_drew1) | exact HB.out))) : w.heap.size ≤ gb165)); have n3_ := Aside0.mk ((by rw [hg]; exact (below_size (by repeat (first | (with_reducible first | exact HB.out | apply below_alloc | apply pw_below_drewN | apply below_drew1) | exact HB.out))) : w.heap.size ≤ gb165)); clear HB; have HB := n0_; have BK165 := n1_; have GW165 := n2_; have GE165 := n3_; clear n0_ n1_ n2_ n3_; clear hb hbox hg) | ((with_reducible refine gate_callee (f := 18) rfl ?_); refine goesL_ (some 11) rfl rfl Try.func18 (by kernel_rfl) rfl #[] rfl (by (try simp only [List.map_toArray, List.map_cons, List.map_nil]); first | done | rfl | (simp only [List.length_drop, List.length_take]; rfl)) ?_; (with_reducible refine (croftlaw11_awake.calls k  false _ A2.out).mono ?_); rintro e w57 ⟨rfl, hb⟩; refine ⟨_, rfl, ?_⟩; have n0_ := Aside0.mk (blk_below (g := gb165) (o := .cells #[.int .u64 a0_0, .int .i64 a0_1, .int .i64 a0_2, .int .i64 a0_3, .slice A0_4 l0_4.length c0_4, .int .u64 a0_5, .bool a0_6] 44 (0, 0)) (by (with_reducible repeat (first | refine blk_drewN ?_ _ | refine blk_drew ?_ | refine blk_alloc ?_ _)); exact BK165.out) hb); have n1_ := Aside0.mk (below_step (by repeat (first | (with_reducible first | exact HB.out | apply below_alloc | apply pw_below_drewN | apply below_drew1 | refine below_set ?_ GE165.out) | exact HB.out)) hb); clear BK165; clear HB; have BK165 := n0_; have HB := n1_; clear n0_ n1_; (try clear hb); (try clear hb2); (try clear hk); (try clear hi)))
    go_ret
    exact ⟨by first | rfl | (simp [errW_none, errW_some] <;> rfl) | (simp [*, errW_none, errW_some] <;> rfl), by repeat (first | (with_reducible first | exact HB.out | apply below_alloc | apply pw_below_drewN | apply below_drew1 | refine below_set ?_ GE165.out) | exact HB.out)⟩


end Go.Proofs.Ytihfblnjgaalcaa.R
