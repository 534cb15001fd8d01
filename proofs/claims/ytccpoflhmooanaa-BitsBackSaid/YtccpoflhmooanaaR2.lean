import Derived.Test.YtccpoflhmooanaaR1
namespace Go.Proofs.Ytccpoflhmooanaa.R
open Go.RowKit Go.Proofs.YtccpoflhmooanaaW.PrintWords Go.Proofs.YtccpoflhmooanaaW.PrintLast Go.Proofs.YtccpoflhmooanaaW.PrintMore
attribute [local go_sem] max2_int min2_int max_two min_two max_three min_three max_four min_four
set_option linter.unusedVariables false
set_option linter.unusedSimpArgs false

/-! ### croftlaw1_wide_60: function 60 -/
def croftlaw1_wide_60.j0 : Nat → Int → Int → Bool → Bool → Option (Int × Bool)
  | 0, _, _, _, _ => none
  | k + 1, x1, x6, x7, x20 => if x20 = true then (some (x6, x7)) else (if (IntKind.u64.wrap (x6 + x1)) = 0 then (some (0, false)) else (some (IntKind.u64.wrap (x6 + x1), true)))
def croftlaw1_wide_60.f (k : Nat) (a0 : Int) (a1 : Int) : Option (Int × Bool) := (croftlaw1_wide_61.f a0 a1).bind fun bt172 => (if bt172.2 = true then (croftlaw1_wide_60.j0 k a1 bt172.1 bt172.2 (bt172.1 == a0)) else (croftlaw1_wide_60.j0 k a1 bt172.1 bt172.2 true))
theorem croftlaw1_wide_60.mono_l : ∀ k, (∀ y0 y1 y2 y3, LeO (croftlaw1_wide_60.j0 k y0 y1 y2 y3) (croftlaw1_wide_60.j0 (k + 1) y0 y1 y2 y3))
  | 0 => fun _ _ _ _ r h => by simp [croftlaw1_wide_60.j0] at h
  | k + 1 => by
    have ih0 := croftlaw1_wide_60.mono_l k
    · intro y0 y1 y2 y3
      unfold croftlaw1_wide_60.j0
      repeat' first
      | (with_reducible exact ih0 _ _ _ _)
      | (with_reducible exact LeO.refl _)
      | (with_reducible exact LeO.none _)
      | (with_reducible refine LeO.ite ?_ ?_)
      | (with_reducible refine LeO.bind ?_ (fun _ => ?_))
      | exact ih0 _ _ _ _
      | exact LeO.none _
      | refine LeO.ite ?_ ?_
      | refine LeO.bind ?_ (fun _ => ?_)
theorem croftlaw1_wide_60.mono : ∀ a0 a1 k, LeO (croftlaw1_wide_60.f k a0 a1) (croftlaw1_wide_60.f (k + 1) a0 a1) := by
  intro a0 a1 k
  have ih0 := croftlaw1_wide_60.mono_l k
  unfold croftlaw1_wide_60.f
  repeat' first
      | (with_reducible exact ih0 _ _ _ _)
      | (with_reducible exact LeO.refl _)
      | (with_reducible exact LeO.none _)
      | (with_reducible refine LeO.ite ?_ ?_)
      | (with_reducible refine LeO.bind ?_ (fun _ => ?_))
      | exact ih0 _ _ _ _
      | exact LeO.none _
      | refine LeO.ite ?_ ?_
      | refine LeO.bind ?_ (fun _ => ?_)
set_option maxHeartbeats 8000000 in
set_option maxRecDepth 100000 in
theorem croftlaw1_wide_60.calls (k : Nat) (a0 : Int) (a1 : Int) (r1 : Int) (r2 : Bool) (w : World) (h : croftlaw1_wide_60.f k a0 a1 = some (r1, r2)) :
    Calls Try.prog 60 #[.int .u64 a0, .int .u64 a1] w fun e w' => e = .returned (.tuple #[.int .u64 r1, .bool r2]) ∧ Drawn0 w w' := by
  have H : ((croftlaw1_wide_61.f a0 a1).bind fun bt172 => (if bt172.2 = true then (croftlaw1_wide_60.j0 k a1 bt172.1 bt172.2 (bt172.1 == a0)) else (croftlaw1_wide_60.j0 k a1 bt172.1 bt172.2 true))) = some (r1, r2) := h
  clear h
  replace H := Option.bind_eq_some_iff.mp H
  obtain ⟨⟨t172, t173⟩, A30, H⟩ := H
  replace H : (if t173 = true then (croftlaw1_wide_60.j0 k a1 t172 t173 (t172 == a0)) else (croftlaw1_wide_60.j0 k a1 t172 t173 true)) = some (r1, r2) := H
  have A3 := Aside0.mk A30
  clear A30
  have HC4 := Aside0.mk H
  clear H
  go_enter Try.func60, Try.ntmps60
  go_upto_region 2 with (first | ((with_reducible refine gate_callee (f := 61) rfl ?_); refine goesL_ (some 11) rfl rfl Try.func61 (by kernel_rfl) rfl #[.int .u64 a0, .int .u64 a1] rfl (by (try simp only [List.map_toArray, List.map_cons, List.map_nil]); first | done | rfl | (simp only [List.length_drop, List.length_take]; rfl)) ?_; (with_reducible refine (croftlaw1_wide_61.calls a0 a1 t172 t173 _ A3.out).mono ?_); rintro e w' ⟨rfl, ⟨nd, rfl⟩⟩; refine ⟨_, rfl, ?_⟩))
  (try simp only [Act.put, List.setIfInBounds_toArray, List.set_cons_zero, List.set_cons_succ])
  go_cut [20] (fun v20 wc => ∃ (kq : Nat) (x20_3 : Bool), v20 = .bool x20_3 ∧ Aside0 (croftlaw1_wide_60.j0 kq a1 t172 t173 x20_3 = some (r1, r2)) ∧ Aside0 (kq ≤ k) ∧ Drawn0 w wc)
  case first =>
    have H := HC4.out
    clear HC4
    by_cases c5 : t173 = true
    · subst c5
      have H1 : (croftlaw1_wide_60.j0 k a1 t172 true (t172 == a0)) = some (r1, r2) := by rw [if_pos rfl] at H; exact H
      clear H
      have H := H1
      clear H1
      have H' := Aside0.mk H
      clear H
      go_wp2
      go_meet
      case rel => exact ⟨_, ((t172 == a0)), (by first | rfl | (simp; done) | (simp [*]; done)), H', ⟨by first | omega | exact Nat.le_refl _⟩, by repeat (first | exact Drawn0.refl _ | apply Drawn0.step)⟩
    · replace c5 := Bool.eq_false_iff.mpr c5
      subst c5
      have H1 : (croftlaw1_wide_60.j0 k a1 t172 false true) = some (r1, r2) := by rw [if_neg (show ¬ (false = true) by decide)] at H; exact H
      clear H
      have H := H1
      clear H1
      have H' := Aside0.mk H
      clear H
      go_wp2
      go_meet
      case rel => exact ⟨_, (true), (by first | rfl | (simp; done) | (simp [*]; done)), H', ⟨by first | omega | exact Nat.le_refl _⟩, by repeat (first | exact Drawn0.refl _ | apply Drawn0.step)⟩
  case rest =>
    clear HC4
    try clear p2
    try clear c5
    obtain ⟨kq, x20_3, rfl, HA, HJ3, ⟨mc3, rfl⟩⟩ := hcut
    cases kq with
    | zero => exact absurd HA.out (by simp [croftlaw1_wide_60.j0])
    | succ kj3 =>
      have H := HA.out
      clear HA
      simp only [croftlaw1_wide_60.j0] at H
      by_cases c6 : x20_3 = true
      · subst c6
        have H1 : (some (t172, t173)) = some (r1, r2) := by rw [if_pos rfl] at H; exact H
        clear H
        have H := H1
        clear H1
        simp only [Option.some.injEq, Prod.mk.injEq] at H
        obtain ⟨rfl, rfl⟩ := H
        go_wp2
        go_ret2
        exact ⟨by first | rfl | (simp; done) | (simp [*]; done), by repeat (first | exact Drawn0.refl _ | apply Drawn0.step)⟩
      · replace c6 := Bool.eq_false_iff.mpr c6
        subst c6
        have H1 : (if (IntKind.u64.wrap (t172 + a1)) = 0 then (some (0, false)) else (some (IntKind.u64.wrap (t172 + a1), true))) = some (r1, r2) := by rw [if_neg (show ¬ (false = true) by decide)] at H; exact H
        clear H
        have H := H1
        clear H1
        by_cases c7 : (IntKind.u64.wrap (t172 + a1)) = 0
        · rw [if_pos c7] at H
          have c7b0 : ((IntKind.u64.wrap (t172 + a1)) == 0) = true := beq_iff_eq.mpr c7
          have c7b1 : ((IntKind.u64.wrap (t172 + a1)) != 0) = false := bne_eq_false_iff_eq.mpr c7
          clear c7
          simp only [Option.some.injEq, Prod.mk.injEq] at H
          obtain ⟨rfl, rfl⟩ := H
          go_wp2
          go_ret2
          exact ⟨by first | rfl | (simp; done) | (simp [*]; done), by repeat (first | exact Drawn0.refl _ | apply Drawn0.step)⟩
        · rw [if_neg c7] at H
          have c7b0 : ((IntKind.u64.wrap (t172 + a1)) == 0) = false := beq_eq_false_iff_ne.mpr c7
          have c7b1 : ((IntKind.u64.wrap (t172 + a1)) != 0) = true := bne_iff_ne.mpr c7
          simp only [Option.some.injEq, Prod.mk.injEq] at H
          obtain ⟨rfl, rfl⟩ := H
          go_wp2
          go_ret2
          exact ⟨by first | rfl | (simp; done) | (simp [*]; done), by repeat (first | exact Drawn0.refl _ | apply Drawn0.step)⟩

/-! ### croftlaw1_wide_15: function 15 -/
def croftlaw1_wide_15.j0 : Nat → Int → Int → Int → Int → Int → Bool → Option (Bool)
  | 0, _, _, _, _, _, _ => none
  | k + 1, x0, x1, x2, x7, x8, x39 => if x39 = true then (some false) else ((croftlaw1_wide_61.f x0 x1).bind fun bt180 => ((croftref1_Down.f k x7 x8 x2).bind fun bt182 => (if bt180.1 = bt182.1 then (some (bt180.2 == bt182.2)) else (some false))))
def croftlaw1_wide_15.f (k : Nat) (a0 : Int) (a1 : Int) (a2 : Int) : Option (Bool) := (croftref1_Cut.f a0 a2).bind fun t174 => ((croftref1_Cut.f a1 a2).bind fun t175 => ((croftlaw1_wide_60.f k a0 a1).bind fun bt176 => ((croftref1_Up.f k t174 t175 a2).bind fun bt178 => (if bt176.1 = bt178.1 then (croftlaw1_wide_15.j0 k a0 a1 a2 t174 t175 (bt176.2 != bt178.2)) else (croftlaw1_wide_15.j0 k a0 a1 a2 t174 t175 true)))))
theorem croftlaw1_wide_15.mono_l : ∀ k, (∀ y0 y1 y2 y3 y4 y5, LeO (croftlaw1_wide_15.j0 k y0 y1 y2 y3 y4 y5) (croftlaw1_wide_15.j0 (k + 1) y0 y1 y2 y3 y4 y5))
  | 0 => fun _ _ _ _ _ _ r h => by simp [croftlaw1_wide_15.j0] at h
  | k + 1 => by
    have ih0 := croftlaw1_wide_15.mono_l k
    · intro y0 y1 y2 y3 y4 y5
      unfold croftlaw1_wide_15.j0
      repeat' first
      | (with_reducible exact ih0 _ _ _ _ _ _)
      | (with_reducible exact croftlaw1_wide_60.mono _ _ _)
      | (with_reducible exact croftref1_Down.mono _ _ _ _)
      | (with_reducible exact croftref1_Up.mono _ _ _ _)
      | (with_reducible exact LeO.refl _)
      | (with_reducible exact LeO.none _)
      | (with_reducible refine LeO.ite ?_ ?_)
      | (with_reducible refine LeO.bind ?_ (fun _ => ?_))
      | exact ih0 _ _ _ _ _ _
      | exact croftlaw1_wide_60.mono _ _ _
      | exact croftref1_Down.mono _ _ _ _
      | exact croftref1_Up.mono _ _ _ _
      | exact LeO.none _
      | refine LeO.ite ?_ ?_
      | refine LeO.bind ?_ (fun _ => ?_)
theorem croftlaw1_wide_15.mono : ∀ a0 a1 a2 k, LeO (croftlaw1_wide_15.f k a0 a1 a2) (croftlaw1_wide_15.f (k + 1) a0 a1 a2) := by
  intro a0 a1 a2 k
  have ih0 := croftlaw1_wide_15.mono_l k
  unfold croftlaw1_wide_15.f
  repeat' first
      | (with_reducible exact ih0 _ _ _ _ _ _)
      | (with_reducible exact croftlaw1_wide_60.mono _ _ _)
      | (with_reducible exact croftref1_Down.mono _ _ _ _)
      | (with_reducible exact croftref1_Up.mono _ _ _ _)
      | (with_reducible exact LeO.refl _)
      | (with_reducible exact LeO.none _)
      | (with_reducible refine LeO.ite ?_ ?_)
      | (with_reducible refine LeO.bind ?_ (fun _ => ?_))
      | exact ih0 _ _ _ _ _ _
      | exact croftlaw1_wide_60.mono _ _ _
      | exact croftref1_Down.mono _ _ _ _
      | exact croftref1_Up.mono _ _ _ _
      | exact LeO.none _
      | refine LeO.ite ?_ ?_
      | refine LeO.bind ?_ (fun _ => ?_)
set_option maxHeartbeats 8000000 in
set_option maxRecDepth 100000 in
theorem croftlaw1_wide_15.calls (k : Nat) (a0 : Int) (a1 : Int) (a2 : Int) (r : Bool) (w : World) (h : croftlaw1_wide_15.f k a0 a1 a2 = some r) :
    Calls Try.prog 15 #[.int .u64 a0, .int .u64 a1, .int .i64 a2] w fun e w' => e = .returned (.bool r) ∧ Drawn0 w w' := by
  have H : ((croftref1_Cut.f a0 a2).bind fun t174 => ((croftref1_Cut.f a1 a2).bind fun t175 => ((croftlaw1_wide_60.f k a0 a1).bind fun bt176 => ((croftref1_Up.f k t174 t175 a2).bind fun bt178 => (if bt176.1 = bt178.1 then (croftlaw1_wide_15.j0 k a0 a1 a2 t174 t175 (bt176.2 != bt178.2)) else (croftlaw1_wide_15.j0 k a0 a1 a2 t174 t175 true)))))) = some r := h
  clear h
  replace H := Option.bind_eq_some_iff.mp H
  obtain ⟨t174, A40, H⟩ := H
  replace H : ((croftref1_Cut.f a1 a2).bind fun t175 => ((croftlaw1_wide_60.f k a0 a1).bind fun bt176 => ((croftref1_Up.f k t174 t175 a2).bind fun bt178 => (if bt176.1 = bt178.1 then (croftlaw1_wide_15.j0 k a0 a1 a2 t174 t175 (bt176.2 != bt178.2)) else (croftlaw1_wide_15.j0 k a0 a1 a2 t174 t175 true))))) = some r := H
  have A4 := Aside0.mk A40
  clear A40
  replace H := Option.bind_eq_some_iff.mp H
  obtain ⟨t175, A50, H⟩ := H
  replace H : ((croftlaw1_wide_60.f k a0 a1).bind fun bt176 => ((croftref1_Up.f k t174 t175 a2).bind fun bt178 => (if bt176.1 = bt178.1 then (croftlaw1_wide_15.j0 k a0 a1 a2 t174 t175 (bt176.2 != bt178.2)) else (croftlaw1_wide_15.j0 k a0 a1 a2 t174 t175 true)))) = some r := H
  have A5 := Aside0.mk A50
  clear A50
  replace H := Option.bind_eq_some_iff.mp H
  obtain ⟨⟨t176, t177⟩, A60, H⟩ := H
  replace H : ((croftref1_Up.f k t174 t175 a2).bind fun bt178 => (if t176 = bt178.1 then (croftlaw1_wide_15.j0 k a0 a1 a2 t174 t175 (t177 != bt178.2)) else (croftlaw1_wide_15.j0 k a0 a1 a2 t174 t175 true))) = some r := H
  have A6 := Aside0.mk A60
  clear A60
  replace H := Option.bind_eq_some_iff.mp H
  obtain ⟨⟨t178, t179⟩, A70, H⟩ := H
  replace H : (if t176 = t178 then (croftlaw1_wide_15.j0 k a0 a1 a2 t174 t175 (t177 != t179)) else (croftlaw1_wide_15.j0 k a0 a1 a2 t174 t175 true)) = some r := H
  have A7 := Aside0.mk A70
  clear A70
  have HC8 := Aside0.mk H
  clear H
  go_enter Try.func15, Try.ntmps15
  go_upto_region 5 with (first | ((with_reducible refine gate_callee (f := 52) rfl ?_); refine goesL_ (some 15) rfl rfl Try.func52 (by kernel_rfl) rfl #[.int .u64 a0, .int .i64 a2] rfl (by (try simp only [List.map_toArray, List.map_cons, List.map_nil]); first | done | rfl | (simp only [List.length_drop, List.length_take]; rfl)) ?_; (with_reducible refine (croftref1_Cut.calls a0 a2 t174 _ A4.out).mono ?_); rintro e w' ⟨rfl, ⟨nd, rfl⟩⟩; refine ⟨_, rfl, ?_⟩) | ((with_reducible refine gate_callee (f := 52) rfl ?_); refine goesL_ (some 18) rfl rfl Try.func52 (by kernel_rfl) rfl #[.int .u64 a1, .int .i64 a2] rfl (by (try simp only [List.map_toArray, List.map_cons, List.map_nil]); first | done | rfl | (simp only [List.length_drop, List.length_take]; rfl)) ?_; (with_reducible refine (croftref1_Cut.calls a1 a2 t175 _ A5.out).mono ?_); rintro e w' ⟨rfl, ⟨nd, rfl⟩⟩; refine ⟨_, rfl, ?_⟩) | ((with_reducible refine gate_callee (f := 60) rfl ?_); refine goesL_ (some 22) rfl rfl Try.func60 (by kernel_rfl) rfl #[.int .u64 a0, .int .u64 a1] rfl (by (try simp only [List.map_toArray, List.map_cons, List.map_nil]); first | done | rfl | (simp only [List.length_drop, List.length_take]; rfl)) ?_; (with_reducible refine (croftlaw1_wide_60.calls k a0 a1 t176 t177 _ A6.out).mono ?_); rintro e w' ⟨rfl, ⟨nd, rfl⟩⟩; refine ⟨_, rfl, ?_⟩) | ((with_reducible refine gate_callee (f := 53) rfl ?_); refine goesL_ (some 29) rfl rfl Try.func53 (by kernel_rfl) rfl #[.int .u64 t174, .int .u64 t175, .int .i64 a2] rfl (by (try simp only [List.map_toArray, List.map_cons, List.map_nil]); first | done | rfl | (simp only [List.length_drop, List.length_take]; rfl)) ?_; (with_reducible refine (croftref1_Up.calls k t174 t175 a2 t178 t179 _ A7.out).mono ?_); rintro e w' ⟨rfl, ⟨nd, rfl⟩⟩; refine ⟨_, rfl, ?_⟩))
  (try simp only [Act.put, List.setIfInBounds_toArray, List.set_cons_zero, List.set_cons_succ])
  go_cut [39] (fun v39 wc => ∃ (kq : Nat) (x39_7 : Bool), v39 = .bool x39_7 ∧ Aside0 (croftlaw1_wide_15.j0 kq a0 a1 a2 t174 t175 x39_7 = some r) ∧ Aside0 (kq ≤ k) ∧ Drawn0 w wc)
  case first =>
    have H := HC8.out
    clear HC8
    by_cases c9 : t176 = t178
    · rw [if_pos c9] at H
      have c9b0 : (t176 == t178) = true := beq_iff_eq.mpr c9
      have c9b1 : (t176 != t178) = false := bne_eq_false_iff_eq.mpr c9
      clear c9
      (first | rw [c9b0] | (simp only [i64_w, i32_w]; rw [c9b0]) | skip)
      have H' := Aside0.mk H
      clear H
      go_wp2
      go_meet
      case rel => exact ⟨_, ((t177 != t179)), (by first | rfl | (simp; done) | (simp [*]; done)), H', ⟨by first | omega | exact Nat.le_refl _⟩, by repeat (first | exact Drawn0.refl _ | apply Drawn0.step)⟩
    · rw [if_neg c9] at H
      have c9b0 : (t176 == t178) = false := beq_eq_false_iff_ne.mpr c9
      have c9b1 : (t176 != t178) = true := bne_iff_ne.mpr c9
      (first | rw [c9b0] | (simp only [i64_w, i32_w]; rw [c9b0]) | skip)
      have H' := Aside0.mk H
      clear H
      go_wp2
      go_meet
      case rel => exact ⟨_, (true), (by first | rfl | (simp; done) | (simp [*]; done)), H', ⟨by first | omega | exact Nat.le_refl _⟩, by repeat (first | exact Drawn0.refl _ | apply Drawn0.step)⟩
  case rest =>
    clear HC8
    try clear c1
    try clear p2
    try clear c5
    try clear c6
    try clear c9
    try clear c9b0
    try clear c9b1
    obtain ⟨kq, x39_7, rfl, HA, HJ7, ⟨mc7, rfl⟩⟩ := hcut
    cases kq with
    | zero => exact absurd HA.out (by simp [croftlaw1_wide_15.j0])
    | succ kj7 =>
      have H := HA.out
      clear HA
      simp only [croftlaw1_wide_15.j0] at H
      by_cases c10 : x39_7 = true
      · subst c10
        have H1 : (some false) = some r := by rw [if_pos rfl] at H; exact H
        clear H
        have H := H1
        clear H1
        obtain rfl := Option.some.inj H
        go_wp2
        go_ret
        exact ⟨by first | rfl | (simp; done) | (simp [*]; done), by repeat (first | exact Drawn0.refl _ | apply Drawn0.step)⟩
      · replace c10 := Bool.eq_false_iff.mpr c10
        subst c10
        have H1 : ((croftlaw1_wide_61.f a0 a1).bind fun bt180 => ((croftref1_Down.f kj7 t174 t175 a2).bind fun bt182 => (if bt180.1 = bt182.1 then (some (bt180.2 == bt182.2)) else (some false)))) = some r := by rw [if_neg (show ¬ (false = true) by decide)] at H; exact H
        clear H
        have H := H1
        clear H1
        replace H := Option.bind_eq_some_iff.mp H
        obtain ⟨⟨t180, t181⟩, A110, H⟩ := H
        replace H : ((croftref1_Down.f kj7 t174 t175 a2).bind fun bt182 => (if t180 = bt182.1 then (some (t181 == bt182.2)) else (some false))) = some r := H
        have A11 := Aside0.mk A110
        clear A110
        replace H := Option.bind_eq_some_iff.mp H
        obtain ⟨⟨t182, t183⟩, A120, H⟩ := H
        replace H : (if t180 = t182 then (some (t181 == t183)) else (some false)) = some r := H
        have A12 := Aside0.mk A120
        clear A120
        by_cases c13 : t180 = t182
        · rw [if_pos c13] at H
          have c13b0 : (t180 == t182) = true := beq_iff_eq.mpr c13
          have c13b1 : (t180 != t182) = false := bne_eq_false_iff_eq.mpr c13
          clear c13
          obtain rfl := Option.some.inj H
          go_wp2_with (first | ((with_reducible refine gate_callee (f := 61) rfl ?_); refine goesL_ (some 43) rfl rfl Try.func61 (by kernel_rfl) rfl #[.int .u64 a0, .int .u64 a1] rfl (by (try simp only [List.map_toArray, List.map_cons, List.map_nil]); first | done | rfl | (simp only [List.length_drop, List.length_take]; rfl)) ?_; (with_reducible refine (croftlaw1_wide_61.calls a0 a1 t180 t181 _ A11.out).mono ?_); rintro e w' ⟨rfl, ⟨nd, rfl⟩⟩; refine ⟨_, rfl, ?_⟩) | ((with_reducible refine gate_callee (f := 55) rfl ?_); refine goesL_ (some 50) rfl rfl Try.func55 (by kernel_rfl) rfl #[.int .u64 t174, .int .u64 t175, .int .i64 a2] rfl (by (try simp only [List.map_toArray, List.map_cons, List.map_nil]); first | done | rfl | (simp only [List.length_drop, List.length_take]; rfl)) ?_; (with_reducible refine (croftref1_Down.calls kj7 t174 t175 a2 t182 t183 _ A12.out).mono ?_); rintro e w' ⟨rfl, ⟨nd, rfl⟩⟩; refine ⟨_, rfl, ?_⟩))
          go_ret
          exact ⟨by first | rfl | (simp; done) | (simp [*]; done), by repeat (first | exact Drawn0.refl _ | apply Drawn0.step)⟩
        · rw [if_neg c13] at H
          have c13b0 : (t180 == t182) = false := beq_eq_false_iff_ne.mpr c13
          have c13b1 : (t180 != t182) = true := bne_iff_ne.mpr c13
          obtain rfl := Option.some.inj H
          go_wp2_with (first | ((with_reducible refine gate_callee (f := 61) rfl ?_); refine goesL_ (some 43) rfl rfl Try.func61 (by kernel_rfl) rfl #[.int .u64 a0, .int .u64 a1] rfl (by (try simp only [List.map_toArray, List.map_cons, List.map_nil]); first | done | rfl | (simp only [List.length_drop, List.length_take]; rfl)) ?_; (with_reducible refine (croftlaw1_wide_61.calls a0 a1 t180 t181 _ A11.out).mono ?_); rintro e w' ⟨rfl, ⟨nd, rfl⟩⟩; refine ⟨_, rfl, ?_⟩) | ((with_reducible refine gate_callee (f := 55) rfl ?_); refine goesL_ (some 50) rfl rfl Try.func55 (by kernel_rfl) rfl #[.int .u64 t174, .int .u64 t175, .int .i64 a2] rfl (by (try simp only [List.map_toArray, List.map_cons, List.map_nil]); first | done | rfl | (simp only [List.length_drop, List.length_take]; rfl)) ?_; (with_reducible refine (croftref1_Down.calls kj7 t174 t175 a2 t182 t183 _ A12.out).mono ?_); rintro e w' ⟨rfl, ⟨nd, rfl⟩⟩; refine ⟨_, rfl, ?_⟩))
          go_ret
          exact ⟨by first | rfl | (simp; done) | (simp [*]; done), by repeat (first | exact Drawn0.refl _ | apply Drawn0.step)⟩

/-! ### croftlaw1_BitsMultiples: function 3 -/
def croftlaw1_BitsMultiples.f (k : Nat) (a0 : Int) (a1 : Int) : Option (Bool) := (croftlaw1_multiples_uint8.f k a0 a1 8).bind fun t184 => (if t184 = true then ((croftlaw1_multiples_uint16.f k a0 a1 16).bind fun t185 => (if t185 = true then ((croftlaw1_multiples_uint32.f k a0 a1 32).bind fun t186 => (if t186 = true then ((croftlaw1_multiples_uint64.f k a0 a1 64).bind fun t187 => (if t187 = true then ((croftlaw1_small_14.f k a0 a1 8).bind fun t188 => (if t188 = true then ((croftlaw1_wide_15.f k a0 a1 64).bind fun t189 => (some t189)) else (some false))) else (some false))) else (some false))) else (some false))) else (some false))
theorem croftlaw1_BitsMultiples.mono : ∀ a0 a1 k, LeO (croftlaw1_BitsMultiples.f k a0 a1) (croftlaw1_BitsMultiples.f (k + 1) a0 a1) := by
  intro a0 a1 k
  unfold croftlaw1_BitsMultiples.f
  repeat' first
      | (with_reducible exact croftlaw1_multiples_uint16.mono _ _ _ _)
      | (with_reducible exact croftlaw1_multiples_uint32.mono _ _ _ _)
      | (with_reducible exact croftlaw1_multiples_uint64.mono _ _ _ _)
      | (with_reducible exact croftlaw1_multiples_uint8.mono _ _ _ _)
      | (with_reducible exact croftlaw1_small_14.mono _ _ _ _)
      | (with_reducible exact croftlaw1_wide_15.mono _ _ _ _)
      | (with_reducible exact LeO.refl _)
      | (with_reducible exact LeO.none _)
      | (with_reducible refine LeO.ite ?_ ?_)
      | (with_reducible refine LeO.bind ?_ (fun _ => ?_))
      | exact croftlaw1_multiples_uint16.mono _ _ _ _
      | exact croftlaw1_multiples_uint32.mono _ _ _ _
      | exact croftlaw1_multiples_uint64.mono _ _ _ _
      | exact croftlaw1_multiples_uint8.mono _ _ _ _
      | exact croftlaw1_small_14.mono _ _ _ _
      | exact croftlaw1_wide_15.mono _ _ _ _
      | exact LeO.none _
      | refine LeO.ite ?_ ?_
      | refine LeO.bind ?_ (fun _ => ?_)
set_option maxHeartbeats 8000000 in
set_option maxRecDepth 100000 in
theorem croftlaw1_BitsMultiples.calls (k : Nat) (a0 : Int) (a1 : Int) (r : Bool) (w : World) (h : croftlaw1_BitsMultiples.f k a0 a1 = some r) :
    Calls Try.prog 3 #[.int .u64 a0, .int .u64 a1] w fun e w' => e = .returned (.bool r) ∧ Drawn0 w w' := by
  have H : ((croftlaw1_multiples_uint8.f k a0 a1 8).bind fun t184 => (if t184 = true then ((croftlaw1_multiples_uint16.f k a0 a1 16).bind fun t185 => (if t185 = true then ((croftlaw1_multiples_uint32.f k a0 a1 32).bind fun t186 => (if t186 = true then ((croftlaw1_multiples_uint64.f k a0 a1 64).bind fun t187 => (if t187 = true then ((croftlaw1_small_14.f k a0 a1 8).bind fun t188 => (if t188 = true then ((croftlaw1_wide_15.f k a0 a1 64).bind fun t189 => (some t189)) else (some false))) else (some false))) else (some false))) else (some false))) else (some false))) = some r := h
  clear h
  replace H := Option.bind_eq_some_iff.mp H
  obtain ⟨t184, A30, H⟩ := H
  replace H : (if t184 = true then ((croftlaw1_multiples_uint16.f k a0 a1 16).bind fun t185 => (if t185 = true then ((croftlaw1_multiples_uint32.f k a0 a1 32).bind fun t186 => (if t186 = true then ((croftlaw1_multiples_uint64.f k a0 a1 64).bind fun t187 => (if t187 = true then ((croftlaw1_small_14.f k a0 a1 8).bind fun t188 => (if t188 = true then ((croftlaw1_wide_15.f k a0 a1 64).bind fun t189 => (some t189)) else (some false))) else (some false))) else (some false))) else (some false))) else (some false)) = some r := H
  have A3 := Aside0.mk A30
  clear A30
  by_cases c4 : t184 = true
  · subst c4
    have H1 : ((croftlaw1_multiples_uint16.f k a0 a1 16).bind fun t185 => (if t185 = true then ((croftlaw1_multiples_uint32.f k a0 a1 32).bind fun t186 => (if t186 = true then ((croftlaw1_multiples_uint64.f k a0 a1 64).bind fun t187 => (if t187 = true then ((croftlaw1_small_14.f k a0 a1 8).bind fun t188 => (if t188 = true then ((croftlaw1_wide_15.f k a0 a1 64).bind fun t189 => (some t189)) else (some false))) else (some false))) else (some false))) else (some false))) = some r := by rw [if_pos rfl] at H; exact H
    clear H
    have H := H1
    clear H1
    replace H := Option.bind_eq_some_iff.mp H
    obtain ⟨t185, A50, H⟩ := H
    replace H : (if t185 = true then ((croftlaw1_multiples_uint32.f k a0 a1 32).bind fun t186 => (if t186 = true then ((croftlaw1_multiples_uint64.f k a0 a1 64).bind fun t187 => (if t187 = true then ((croftlaw1_small_14.f k a0 a1 8).bind fun t188 => (if t188 = true then ((croftlaw1_wide_15.f k a0 a1 64).bind fun t189 => (some t189)) else (some false))) else (some false))) else (some false))) else (some false)) = some r := H
    have A5 := Aside0.mk A50
    clear A50
    by_cases c6 : t185 = true
    · subst c6
      have H1 : ((croftlaw1_multiples_uint32.f k a0 a1 32).bind fun t186 => (if t186 = true then ((croftlaw1_multiples_uint64.f k a0 a1 64).bind fun t187 => (if t187 = true then ((croftlaw1_small_14.f k a0 a1 8).bind fun t188 => (if t188 = true then ((croftlaw1_wide_15.f k a0 a1 64).bind fun t189 => (some t189)) else (some false))) else (some false))) else (some false))) = some r := by rw [if_pos rfl] at H; exact H
      clear H
      have H := H1
      clear H1
      replace H := Option.bind_eq_some_iff.mp H
      obtain ⟨t186, A70, H⟩ := H
      replace H : (if t186 = true then ((croftlaw1_multiples_uint64.f k a0 a1 64).bind fun t187 => (if t187 = true then ((croftlaw1_small_14.f k a0 a1 8).bind fun t188 => (if t188 = true then ((croftlaw1_wide_15.f k a0 a1 64).bind fun t189 => (some t189)) else (some false))) else (some false))) else (some false)) = some r := H
      have A7 := Aside0.mk A70
      clear A70
      by_cases c8 : t186 = true
      · subst c8
        have H1 : ((croftlaw1_multiples_uint64.f k a0 a1 64).bind fun t187 => (if t187 = true then ((croftlaw1_small_14.f k a0 a1 8).bind fun t188 => (if t188 = true then ((croftlaw1_wide_15.f k a0 a1 64).bind fun t189 => (some t189)) else (some false))) else (some false))) = some r := by rw [if_pos rfl] at H; exact H
        clear H
        have H := H1
        clear H1
        replace H := Option.bind_eq_some_iff.mp H
        obtain ⟨t187, A90, H⟩ := H
        replace H : (if t187 = true then ((croftlaw1_small_14.f k a0 a1 8).bind fun t188 => (if t188 = true then ((croftlaw1_wide_15.f k a0 a1 64).bind fun t189 => (some t189)) else (some false))) else (some false)) = some r := H
        have A9 := Aside0.mk A90
        clear A90
        by_cases c10 : t187 = true
        · subst c10
          have H1 : ((croftlaw1_small_14.f k a0 a1 8).bind fun t188 => (if t188 = true then ((croftlaw1_wide_15.f k a0 a1 64).bind fun t189 => (some t189)) else (some false))) = some r := by rw [if_pos rfl] at H; exact H
          clear H
          have H := H1
          clear H1
          replace H := Option.bind_eq_some_iff.mp H
          obtain ⟨t188, A110, H⟩ := H
          replace H : (if t188 = true then ((croftlaw1_wide_15.f k a0 a1 64).bind fun t189 => (some t189)) else (some false)) = some r := H
          have A11 := Aside0.mk A110
          clear A110
          by_cases c12 : t188 = true
          · subst c12
            have H1 : ((croftlaw1_wide_15.f k a0 a1 64).bind fun t189 => (some t189)) = some r := by rw [if_pos rfl] at H; exact H
            clear H
            have H := H1
            clear H1
            replace H := Option.bind_eq_some_iff.mp H
            obtain ⟨t189, A130, H⟩ := H
            replace H : (some t189) = some r := H
            have A13 := Aside0.mk A130
            clear A130
            obtain rfl := Option.some.inj H
            go_enter Try.func3, Try.ntmps3
            go_wp2_with (first | ((with_reducible refine gate_callee (f := 10) rfl ?_); refine goesL_ (some 7) rfl rfl Try.func10 (by kernel_rfl) rfl #[.int .u64 a0, .int .u64 a1, .int .i64 8] rfl (by (try simp only [List.map_toArray, List.map_cons, List.map_nil]); first | done | rfl | (simp only [List.length_drop, List.length_take]; rfl)) ?_; (with_reducible refine (croftlaw1_multiples_uint8.calls k a0 a1 8 true _ A3.out).mono ?_); rintro e w' ⟨rfl, ⟨nd, rfl⟩⟩; refine ⟨_, rfl, ?_⟩) | (go_at_call 11; (with_reducible refine (croftlaw1_multiples_uint16.calls k a0 a1 16 true _ A5.out).mono ?_); rintro e w' ⟨rfl, ⟨nd, rfl⟩⟩) | (go_at_call 12; (with_reducible refine (croftlaw1_multiples_uint32.calls k a0 a1 32 true _ A7.out).mono ?_); rintro e w' ⟨rfl, ⟨nd, rfl⟩⟩) | (go_at_call 13; (with_reducible refine (croftlaw1_multiples_uint64.calls k a0 a1 64 true _ A9.out).mono ?_); rintro e w' ⟨rfl, ⟨nd, rfl⟩⟩) | (go_at_call 14; (with_reducible refine (croftlaw1_small_14.calls k a0 a1 8 true _ A11.out).mono ?_); rintro e w' ⟨rfl, ⟨nd, rfl⟩⟩) | (go_at_call 15; (with_reducible refine (croftlaw1_wide_15.calls k a0 a1 64 t189 _ A13.out).mono ?_); rintro e w' ⟨rfl, ⟨nd, rfl⟩⟩))
            go_ret
            exact ⟨by first | rfl | (simp; done) | (simp [*]; done), by repeat (first | exact Drawn0.refl _ | apply Drawn0.step)⟩
          · replace c12 := Bool.eq_false_iff.mpr c12
            subst c12
            have H1 : (some false) = some r := by rw [if_neg (show ¬ (false = true) by decide)] at H; exact H
            clear H
            have H := H1
            clear H1
            obtain rfl := Option.some.inj H
            go_enter Try.func3, Try.ntmps3
            go_wp2_with (first | ((with_reducible refine gate_callee (f := 10) rfl ?_); refine goesL_ (some 7) rfl rfl Try.func10 (by kernel_rfl) rfl #[.int .u64 a0, .int .u64 a1, .int .i64 8] rfl (by (try simp only [List.map_toArray, List.map_cons, List.map_nil]); first | done | rfl | (simp only [List.length_drop, List.length_take]; rfl)) ?_; (with_reducible refine (croftlaw1_multiples_uint8.calls k a0 a1 8 true _ A3.out).mono ?_); rintro e w' ⟨rfl, ⟨nd, rfl⟩⟩; refine ⟨_, rfl, ?_⟩) | (go_at_call 11; (with_reducible refine (croftlaw1_multiples_uint16.calls k a0 a1 16 true _ A5.out).mono ?_); rintro e w' ⟨rfl, ⟨nd, rfl⟩⟩) | (go_at_call 12; (with_reducible refine (croftlaw1_multiples_uint32.calls k a0 a1 32 true _ A7.out).mono ?_); rintro e w' ⟨rfl, ⟨nd, rfl⟩⟩) | (go_at_call 13; (with_reducible refine (croftlaw1_multiples_uint64.calls k a0 a1 64 true _ A9.out).mono ?_); rintro e w' ⟨rfl, ⟨nd, rfl⟩⟩) | (go_at_call 14; (with_reducible refine (croftlaw1_small_14.calls k a0 a1 8 false _ A11.out).mono ?_); rintro e w' ⟨rfl, ⟨nd, rfl⟩⟩))
            go_ret
            exact ⟨by first | rfl | (simp; done) | (simp [*]; done), by repeat (first | exact Drawn0.refl _ | apply Drawn0.step)⟩
        · replace c10 := Bool.eq_false_iff.mpr c10
          subst c10
          have H1 : (some false) = some r := by rw [if_neg (show ¬ (false = true) by decide)] at H; exact H
          clear H
          have H := H1
          clear H1
          obtain rfl := Option.some.inj H
          go_enter Try.func3, Try.ntmps3
          go_wp2_with (first | ((with_reducible refine gate_callee (f := 10) rfl ?_); refine goesL_ (some 7) rfl rfl Try.func10 (by kernel_rfl) rfl #[.int .u64 a0, .int .u64 a1, .int .i64 8] rfl (by (try simp only [List.map_toArray, List.map_cons, List.map_nil]); first | done | rfl | (simp only [List.length_drop, List.length_take]; rfl)) ?_; (with_reducible refine (croftlaw1_multiples_uint8.calls k a0 a1 8 true _ A3.out).mono ?_); rintro e w' ⟨rfl, ⟨nd, rfl⟩⟩; refine ⟨_, rfl, ?_⟩) | (go_at_call 11; (with_reducible refine (croftlaw1_multiples_uint16.calls k a0 a1 16 true _ A5.out).mono ?_); rintro e w' ⟨rfl, ⟨nd, rfl⟩⟩) | (go_at_call 12; (with_reducible refine (croftlaw1_multiples_uint32.calls k a0 a1 32 true _ A7.out).mono ?_); rintro e w' ⟨rfl, ⟨nd, rfl⟩⟩) | (go_at_call 13; (with_reducible refine (croftlaw1_multiples_uint64.calls k a0 a1 64 false _ A9.out).mono ?_); rintro e w' ⟨rfl, ⟨nd, rfl⟩⟩))
          go_ret
          exact ⟨by first | rfl | (simp; done) | (simp [*]; done), by repeat (first | exact Drawn0.refl _ | apply Drawn0.step)⟩
      · replace c8 := Bool.eq_false_iff.mpr c8
        subst c8
        have H1 : (some false) = some r := by rw [if_neg (show ¬ (false = true) by decide)] at H; exact H
        clear H
        have H := H1
        clear H1
        obtain rfl := Option.some.inj H
        go_enter Try.func3, Try.ntmps3
        go_wp2_with (first | ((with_reducible refine gate_callee (f := 10) rfl ?_); refine goesL_ (some 7) rfl rfl Try.func10 (by kernel_rfl) rfl #[.int .u64 a0, .int .u64 a1, .int .i64 8] rfl (by (try simp only [List.map_toArray, List.map_cons, List.map_nil]); first | done | rfl | (simp only [List.length_drop, List.length_take]; rfl)) ?_; (with_reducible refine (croftlaw1_multiples_uint8.calls k a0 a1 8 true _ A3.out).mono ?_); rintro e w' ⟨rfl, ⟨nd, rfl⟩⟩; refine ⟨_, rfl, ?_⟩) | (go_at_call 11; (with_reducible refine (croftlaw1_multiples_uint16.calls k a0 a1 16 true _ A5.out).mono ?_); rintro e w' ⟨rfl, ⟨nd, rfl⟩⟩) | (go_at_call 12; (with_reducible refine (croftlaw1_multiples_uint32.calls k a0 a1 32 false _ A7.out).mono ?_); rintro e w' ⟨rfl, ⟨nd, rfl⟩⟩))
        go_ret
        exact ⟨by first | rfl | (simp; done) | (simp [*]; done), by repeat (first | exact Drawn0.refl _ | apply Drawn0.step)⟩
    · replace c6 := Bool.eq_false_iff.mpr c6
      subst c6
      have H1 : (some false) = some r := by rw [if_neg (show ¬ (false = true) by decide)] at H; exact H
      clear H
      have H := H1
      clear H1
      obtain rfl := Option.some.inj H
      go_enter Try.func3, Try.ntmps3
      go_wp2_with (first | ((with_reducible refine gate_callee (f := 10) rfl ?_); refine goesL_ (some 7) rfl rfl Try.func10 (by kernel_rfl) rfl #[.int .u64 a0, .int .u64 a1, .int .i64 8] rfl (by (try simp only [List.map_toArray, List.map_cons, List.map_nil]); first | done | rfl | (simp only [List.length_drop, List.length_take]; rfl)) ?_; (with_reducible refine (croftlaw1_multiples_uint8.calls k a0 a1 8 true _ A3.out).mono ?_); rintro e w' ⟨rfl, ⟨nd, rfl⟩⟩; refine ⟨_, rfl, ?_⟩) | (go_at_call 11; (with_reducible refine (croftlaw1_multiples_uint16.calls k a0 a1 16 false _ A5.out).mono ?_); rintro e w' ⟨rfl, ⟨nd, rfl⟩⟩))
      go_ret
      exact ⟨by first | rfl | (simp; done) | (simp [*]; done), by repeat (first | exact Drawn0.refl _ | apply Drawn0.step)⟩
  · replace c4 := Bool.eq_false_iff.mpr c4
    subst c4
    have H1 : (some false) = some r := by rw [if_neg (show ¬ (false = true) by decide)] at H; exact H
    clear H
    have H := H1
    clear H1
    obtain rfl := Option.some.inj H
    go_enter Try.func3, Try.ntmps3
    go_wp2_with (first | ((with_reducible refine gate_callee (f := 10) rfl ?_); refine goesL_ (some 7) rfl rfl Try.func10 (by kernel_rfl) rfl #[.int .u64 a0, .int .u64 a1, .int .i64 8] rfl (by (try simp only [List.map_toArray, List.map_cons, List.map_nil]); first | done | rfl | (simp only [List.length_drop, List.length_take]; rfl)) ?_; (with_reducible refine (croftlaw1_multiples_uint8.calls k a0 a1 8 false _ A3.out).mono ?_); rintro e w' ⟨rfl, ⟨nd, rfl⟩⟩; refine ⟨_, rfl, ?_⟩))
    go_ret
    exact ⟨by first | rfl | (simp; done) | (simp [*]; done), by repeat (first | exact Drawn0.refl _ | apply Drawn0.step)⟩

/-- THE ONE PURE STATEMENT of croftlaw1_BitsMultiples: yours. -/
def croftlaw1_BitsMultiples.Pure : Prop := ∀ (a0 : Int) (a1 : Int), (Lit.int .u64 a0).wf = true → (Lit.int .u64 a1).wf = true → ∃ k, croftlaw1_BitsMultiples.f k a0 a1 = some true
theorem croftlaw1_BitsMultiples.walk (P : croftlaw1_BitsMultiples.Pure) (a0 : Int) (a1 : Int) (w : World) (w0 : (Lit.int .u64 a0).wf = true) (w1 : (Lit.int .u64 a1).wf = true) :
    Calls Try.prog 3 #[.int .u64 a0, .int .u64 a1] w fun e w' => e = .returned (.bool true) ∧ Below w.heap.size w w' := by
  obtain ⟨k, h⟩ := P a0 a1 w0 w1
  refine (croftlaw1_BitsMultiples.calls k a0 a1 true w h).mono ?_
  rintro e w' ⟨rfl, hd⟩
  exact ⟨rfl, hd.below⟩

/-! ### bits_Len64: function 82 -/
def bits_Len64.f (k : Nat) (a0 : Int) : Option (Int) := if 0 ≤ a0 ∧ a0 ≤ 18446744073709551615 then some (Lib.bitLen a0.toNat : Nat) else none
theorem bits_Len64.mono : ∀ a0 k, LeO (bits_Len64.f k a0) (bits_Len64.f (k + 1) a0) := fun _ _ => LeO.refl _
theorem bits_Len64.calls (k : Nat) (a0 : Int) (r : Int) (w : World) (h : bits_Len64.f k a0 = some r) :
    Calls Try.prog 82 #[.int .u64 a0] w fun e w' => e = .returned (.int .i64 r) ∧ Drawn0 w w' := by
  unfold bits_Len64.f at h
  by_cases hb : 0 ≤ a0 ∧ a0 ≤ 18446744073709551615
  · rw [if_pos hb] at h
    obtain rfl := Option.some.inj h
    refine (Try.bits_Len64 a0 w hb.1 hb.2).mono ?_
    rintro e w' ⟨rfl, rfl⟩
    exact ⟨rfl, Drawn0.refl _⟩
  · rw [if_neg hb] at h
    cases h
/-! ### bits_Log_uint8: function 40 -/
def bits_Log_uint8.f (k : Nat) (a0 : Int) : Option (Int) := (bits_Len64.f k (IntKind.u64.wrap (a0))).bind fun t101 => (some (wrap64 (t101 - 1)))
theorem bits_Log_uint8.mono : ∀ a0 k, LeO (bits_Log_uint8.f k a0) (bits_Log_uint8.f (k + 1) a0) := by
  intro a0 k
  unfold bits_Log_uint8.f
  repeat' first
      | (with_reducible exact bits_Len64.mono _ _)
      | (with_reducible exact LeO.refl _)
      | (with_reducible exact LeO.none _)
      | (with_reducible refine LeO.ite ?_ ?_)
      | (with_reducible refine LeO.bind ?_ (fun _ => ?_))
      | exact bits_Len64.mono _ _
      | exact LeO.none _
      | refine LeO.ite ?_ ?_
      | refine LeO.bind ?_ (fun _ => ?_)
set_option maxHeartbeats 8000000 in
set_option maxRecDepth 100000 in
theorem bits_Log_uint8.calls (k : Nat) (a0 : Int) (r : Int) (w : World) (h : bits_Log_uint8.f k a0 = some r) :
    Calls Try.prog 40 #[.int .u8 a0] w fun e w' => e = .returned (.int .i64 r) ∧ Drawn0 w w' := by
  have H : ((bits_Len64.f k (IntKind.u64.wrap (a0))).bind fun t101 => (some (wrap64 (t101 - 1)))) = some r := h
  clear h
  replace H := Option.bind_eq_some_iff.mp H
  obtain ⟨t101, A20, H⟩ := H
  replace H : (some (wrap64 (t101 - 1))) = some r := H
  have A2 := Aside0.mk A20
  clear A20
  obtain rfl := Option.some.inj H
  go_enter Try.func40, Try.ntmps40
  go_wp2_with (first | ((with_reducible refine gate_callee (f := 82) rfl ?_); refine goesL_ (some 5) rfl rfl Try.func82 (by kernel_rfl) rfl #[.int .u64 (IntKind.u64.wrap (a0))] rfl (by (try simp only [List.map_toArray, List.map_cons, List.map_nil]); first | done | rfl | (simp only [List.length_drop, List.length_take]; rfl)) ?_; (with_reducible refine (bits_Len64.calls k (IntKind.u64.wrap (a0)) t101 _ A2.out).mono ?_); rintro e w' ⟨rfl, ⟨nd, rfl⟩⟩; refine ⟨_, rfl, ?_⟩))
  go_ret
  exact ⟨by first | rfl | (simp; done) | (simp [*]; done), by repeat (first | exact Drawn0.refl _ | apply Drawn0.step)⟩

/-! ### bits_OnesCount64: function 81 -/
def bits_OnesCount64.f (a0 : Int) : Option (Int) := some (Go.bits .and .i64 (wrap64 (IntKind.u64.wrap ((IntKind.u64.wrap ((IntKind.u64.wrap ((Go.bits .and .u64 (IntKind.u64.wrap (((IntKind.u64.wrap ((Go.bits .and .u64 ((IntKind.u64.wrap ((Go.bits .and .u64 (a0 / 2) 6148914691236517205) + (Go.bits .and .u64 a0 6148914691236517205))) / 4) 3689348814741910323) + (Go.bits .and .u64 (IntKind.u64.wrap ((Go.bits .and .u64 (a0 / 2) 6148914691236517205) + (Go.bits .and .u64 a0 6148914691236517205))) 3689348814741910323))) / 16) + (IntKind.u64.wrap ((Go.bits .and .u64 ((IntKind.u64.wrap ((Go.bits .and .u64 (a0 / 2) 6148914691236517205) + (Go.bits .and .u64 a0 6148914691236517205))) / 4) 3689348814741910323) + (Go.bits .and .u64 (IntKind.u64.wrap ((Go.bits .and .u64 (a0 / 2) 6148914691236517205) + (Go.bits .and .u64 a0 6148914691236517205))) 3689348814741910323))))) 1085102592571150095) + ((Go.bits .and .u64 (IntKind.u64.wrap (((IntKind.u64.wrap ((Go.bits .and .u64 ((IntKind.u64.wrap ((Go.bits .and .u64 (a0 / 2) 6148914691236517205) + (Go.bits .and .u64 a0 6148914691236517205))) / 4) 3689348814741910323) + (Go.bits .and .u64 (IntKind.u64.wrap ((Go.bits .and .u64 (a0 / 2) 6148914691236517205) + (Go.bits .and .u64 a0 6148914691236517205))) 3689348814741910323))) / 16) + (IntKind.u64.wrap ((Go.bits .and .u64 ((IntKind.u64.wrap ((Go.bits .and .u64 (a0 / 2) 6148914691236517205) + (Go.bits .and .u64 a0 6148914691236517205))) / 4) 3689348814741910323) + (Go.bits .and .u64 (IntKind.u64.wrap ((Go.bits .and .u64 (a0 / 2) 6148914691236517205) + (Go.bits .and .u64 a0 6148914691236517205))) 3689348814741910323))))) 1085102592571150095) / 256))) + ((IntKind.u64.wrap ((Go.bits .and .u64 (IntKind.u64.wrap (((IntKind.u64.wrap ((Go.bits .and .u64 ((IntKind.u64.wrap ((Go.bits .and .u64 (a0 / 2) 6148914691236517205) + (Go.bits .and .u64 a0 6148914691236517205))) / 4) 3689348814741910323) + (Go.bits .and .u64 (IntKind.u64.wrap ((Go.bits .and .u64 (a0 / 2) 6148914691236517205) + (Go.bits .and .u64 a0 6148914691236517205))) 3689348814741910323))) / 16) + (IntKind.u64.wrap ((Go.bits .and .u64 ((IntKind.u64.wrap ((Go.bits .and .u64 (a0 / 2) 6148914691236517205) + (Go.bits .and .u64 a0 6148914691236517205))) / 4) 3689348814741910323) + (Go.bits .and .u64 (IntKind.u64.wrap ((Go.bits .and .u64 (a0 / 2) 6148914691236517205) + (Go.bits .and .u64 a0 6148914691236517205))) 3689348814741910323))))) 1085102592571150095) + ((Go.bits .and .u64 (IntKind.u64.wrap (((IntKind.u64.wrap ((Go.bits .and .u64 ((IntKind.u64.wrap ((Go.bits .and .u64 (a0 / 2) 6148914691236517205) + (Go.bits .and .u64 a0 6148914691236517205))) / 4) 3689348814741910323) + (Go.bits .and .u64 (IntKind.u64.wrap ((Go.bits .and .u64 (a0 / 2) 6148914691236517205) + (Go.bits .and .u64 a0 6148914691236517205))) 3689348814741910323))) / 16) + (IntKind.u64.wrap ((Go.bits .and .u64 ((IntKind.u64.wrap ((Go.bits .and .u64 (a0 / 2) 6148914691236517205) + (Go.bits .and .u64 a0 6148914691236517205))) / 4) 3689348814741910323) + (Go.bits .and .u64 (IntKind.u64.wrap ((Go.bits .and .u64 (a0 / 2) 6148914691236517205) + (Go.bits .and .u64 a0 6148914691236517205))) 3689348814741910323))))) 1085102592571150095) / 256))) / 65536))) + ((IntKind.u64.wrap ((IntKind.u64.wrap ((Go.bits .and .u64 (IntKind.u64.wrap (((IntKind.u64.wrap ((Go.bits .and .u64 ((IntKind.u64.wrap ((Go.bits .and .u64 (a0 / 2) 6148914691236517205) + (Go.bits .and .u64 a0 6148914691236517205))) / 4) 3689348814741910323) + (Go.bits .and .u64 (IntKind.u64.wrap ((Go.bits .and .u64 (a0 / 2) 6148914691236517205) + (Go.bits .and .u64 a0 6148914691236517205))) 3689348814741910323))) / 16) + (IntKind.u64.wrap ((Go.bits .and .u64 ((IntKind.u64.wrap ((Go.bits .and .u64 (a0 / 2) 6148914691236517205) + (Go.bits .and .u64 a0 6148914691236517205))) / 4) 3689348814741910323) + (Go.bits .and .u64 (IntKind.u64.wrap ((Go.bits .and .u64 (a0 / 2) 6148914691236517205) + (Go.bits .and .u64 a0 6148914691236517205))) 3689348814741910323))))) 1085102592571150095) + ((Go.bits .and .u64 (IntKind.u64.wrap (((IntKind.u64.wrap ((Go.bits .and .u64 ((IntKind.u64.wrap ((Go.bits .and .u64 (a0 / 2) 6148914691236517205) + (Go.bits .and .u64 a0 6148914691236517205))) / 4) 3689348814741910323) + (Go.bits .and .u64 (IntKind.u64.wrap ((Go.bits .and .u64 (a0 / 2) 6148914691236517205) + (Go.bits .and .u64 a0 6148914691236517205))) 3689348814741910323))) / 16) + (IntKind.u64.wrap ((Go.bits .and .u64 ((IntKind.u64.wrap ((Go.bits .and .u64 (a0 / 2) 6148914691236517205) + (Go.bits .and .u64 a0 6148914691236517205))) / 4) 3689348814741910323) + (Go.bits .and .u64 (IntKind.u64.wrap ((Go.bits .and .u64 (a0 / 2) 6148914691236517205) + (Go.bits .and .u64 a0 6148914691236517205))) 3689348814741910323))))) 1085102592571150095) / 256))) + ((IntKind.u64.wrap ((Go.bits .and .u64 (IntKind.u64.wrap (((IntKind.u64.wrap ((Go.bits .and .u64 ((IntKind.u64.wrap ((Go.bits .and .u64 (a0 / 2) 6148914691236517205) + (Go.bits .and .u64 a0 6148914691236517205))) / 4) 3689348814741910323) + (Go.bits .and .u64 (IntKind.u64.wrap ((Go.bits .and .u64 (a0 / 2) 6148914691236517205) + (Go.bits .and .u64 a0 6148914691236517205))) 3689348814741910323))) / 16) + (IntKind.u64.wrap ((Go.bits .and .u64 ((IntKind.u64.wrap ((Go.bits .and .u64 (a0 / 2) 6148914691236517205) + (Go.bits .and .u64 a0 6148914691236517205))) / 4) 3689348814741910323) + (Go.bits .and .u64 (IntKind.u64.wrap ((Go.bits .and .u64 (a0 / 2) 6148914691236517205) + (Go.bits .and .u64 a0 6148914691236517205))) 3689348814741910323))))) 1085102592571150095) + ((Go.bits .and .u64 (IntKind.u64.wrap (((IntKind.u64.wrap ((Go.bits .and .u64 ((IntKind.u64.wrap ((Go.bits .and .u64 (a0 / 2) 6148914691236517205) + (Go.bits .and .u64 a0 6148914691236517205))) / 4) 3689348814741910323) + (Go.bits .and .u64 (IntKind.u64.wrap ((Go.bits .and .u64 (a0 / 2) 6148914691236517205) + (Go.bits .and .u64 a0 6148914691236517205))) 3689348814741910323))) / 16) + (IntKind.u64.wrap ((Go.bits .and .u64 ((IntKind.u64.wrap ((Go.bits .and .u64 (a0 / 2) 6148914691236517205) + (Go.bits .and .u64 a0 6148914691236517205))) / 4) 3689348814741910323) + (Go.bits .and .u64 (IntKind.u64.wrap ((Go.bits .and .u64 (a0 / 2) 6148914691236517205) + (Go.bits .and .u64 a0 6148914691236517205))) 3689348814741910323))))) 1085102592571150095) / 256))) / 65536))) / 4294967296)))) 127)
set_option maxHeartbeats 8000000 in
set_option maxRecDepth 100000 in
theorem bits_OnesCount64.calls (a0 : Int) (r : Int) (w : World) (h : bits_OnesCount64.f a0 = some r) :
    Calls Try.prog 81 #[.int .u64 a0] w fun e w' => e = .returned (.int .i64 r) ∧ Drawn0 w w' := by
  have H : (some (Go.bits .and .i64 (wrap64 (IntKind.u64.wrap ((IntKind.u64.wrap ((IntKind.u64.wrap ((Go.bits .and .u64 (IntKind.u64.wrap (((IntKind.u64.wrap ((Go.bits .and .u64 ((IntKind.u64.wrap ((Go.bits .and .u64 (a0 / 2) 6148914691236517205) + (Go.bits .and .u64 a0 6148914691236517205))) / 4) 3689348814741910323) + (Go.bits .and .u64 (IntKind.u64.wrap ((Go.bits .and .u64 (a0 / 2) 6148914691236517205) + (Go.bits .and .u64 a0 6148914691236517205))) 3689348814741910323))) / 16) + (IntKind.u64.wrap ((Go.bits .and .u64 ((IntKind.u64.wrap ((Go.bits .and .u64 (a0 / 2) 6148914691236517205) + (Go.bits .and .u64 a0 6148914691236517205))) / 4) 3689348814741910323) + (Go.bits .and .u64 (IntKind.u64.wrap ((Go.bits .and .u64 (a0 / 2) 6148914691236517205) + (Go.bits .and .u64 a0 6148914691236517205))) 3689348814741910323))))) 1085102592571150095) + ((Go.bits .and .u64 (IntKind.u64.wrap (((IntKind.u64.wrap ((Go.bits .and .u64 ((IntKind.u64.wrap ((Go.bits .and .u64 (a0 / 2) 6148914691236517205) + (Go.bits .and .u64 a0 6148914691236517205))) / 4) 3689348814741910323) + (Go.bits .and .u64 (IntKind.u64.wrap ((Go.bits .and .u64 (a0 / 2) 6148914691236517205) + (Go.bits .and .u64 a0 6148914691236517205))) 3689348814741910323))) / 16) + (IntKind.u64.wrap ((Go.bits .and .u64 ((IntKind.u64.wrap ((Go.bits .and .u64 (a0 / 2) 6148914691236517205) + (Go.bits .and .u64 a0 6148914691236517205))) / 4) 3689348814741910323) + (Go.bits .and .u64 (IntKind.u64.wrap ((Go.bits .and .u64 (a0 / 2) 6148914691236517205) + (Go.bits .and .u64 a0 6148914691236517205))) 3689348814741910323))))) 1085102592571150095) / 256))) + ((IntKind.u64.wrap ((Go.bits .and .u64 (IntKind.u64.wrap (((IntKind.u64.wrap ((Go.bits .and .u64 ((IntKind.u64.wrap ((Go.bits .and .u64 (a0 / 2) 6148914691236517205) + (Go.bits .and .u64 a0 6148914691236517205))) / 4) 3689348814741910323) + (Go.bits .and .u64 (IntKind.u64.wrap ((Go.bits .and .u64 (a0 / 2) 6148914691236517205) + (Go.bits .and .u64 a0 6148914691236517205))) 3689348814741910323))) / 16) + (IntKind.u64.wrap ((Go.bits .and .u64 ((IntKind.u64.wrap ((Go.bits .and .u64 (a0 / 2) 6148914691236517205) + (Go.bits .and .u64 a0 6148914691236517205))) / 4) 3689348814741910323) + (Go.bits .and .u64 (IntKind.u64.wrap ((Go.bits .and .u64 (a0 / 2) 6148914691236517205) + (Go.bits .and .u64 a0 6148914691236517205))) 3689348814741910323))))) 1085102592571150095) + ((Go.bits .and .u64 (IntKind.u64.wrap (((IntKind.u64.wrap ((Go.bits .and .u64 ((IntKind.u64.wrap ((Go.bits .and .u64 (a0 / 2) 6148914691236517205) + (Go.bits .and .u64 a0 6148914691236517205))) / 4) 3689348814741910323) + (Go.bits .and .u64 (IntKind.u64.wrap ((Go.bits .and .u64 (a0 / 2) 6148914691236517205) + (Go.bits .and .u64 a0 6148914691236517205))) 3689348814741910323))) / 16) + (IntKind.u64.wrap ((Go.bits .and .u64 ((IntKind.u64.wrap ((Go.bits .and .u64 (a0 / 2) 6148914691236517205) + (Go.bits .and .u64 a0 6148914691236517205))) / 4) 3689348814741910323) + (Go.bits .and .u64 (IntKind.u64.wrap ((Go.bits .and .u64 (a0 / 2) 6148914691236517205) + (Go.bits .and .u64 a0 6148914691236517205))) 3689348814741910323))))) 1085102592571150095) / 256))) / 65536))) + ((IntKind.u64.wrap ((IntKind.u64.wrap ((Go.bits .and .u64 (IntKind.u64.wrap (((IntKind.u64.wrap ((Go.bits .and .u64 ((IntKind.u64.wrap ((Go.bits .and .u64 (a0 / 2) 6148914691236517205) + (Go.bits .and .u64 a0 6148914691236517205))) / 4) 3689348814741910323) + (Go.bits .and .u64 (IntKind.u64.wrap ((Go.bits .and .u64 (a0 / 2) 6148914691236517205) + (Go.bits .and .u64 a0 6148914691236517205))) 3689348814741910323))) / 16) + (IntKind.u64.wrap ((Go.bits .and .u64 ((IntKind.u64.wrap ((Go.bits .and .u64 (a0 / 2) 6148914691236517205) + (Go.bits .and .u64 a0 6148914691236517205))) / 4) 3689348814741910323) + (Go.bits .and .u64 (IntKind.u64.wrap ((Go.bits .and .u64 (a0 / 2) 6148914691236517205) + (Go.bits .and .u64 a0 6148914691236517205))) 3689348814741910323))))) 1085102592571150095) + ((Go.bits .and .u64 (IntKind.u64.wrap (((IntKind.u64.wrap ((Go.bits .and .u64 ((IntKind.u64.wrap ((Go.bits .and .u64 (a0 / 2) 6148914691236517205) + (Go.bits .and .u64 a0 6148914691236517205))) / 4) 3689348814741910323) + (Go.bits .and .u64 (IntKind.u64.wrap ((Go.bits .and .u64 (a0 / 2) 6148914691236517205) + (Go.bits .and .u64 a0 6148914691236517205))) 3689348814741910323))) / 16) + (IntKind.u64.wrap ((Go.bits .and .u64 ((IntKind.u64.wrap ((Go.bits .and .u64 (a0 / 2) 6148914691236517205) + (Go.bits .and .u64 a0 6148914691236517205))) / 4) 3689348814741910323) + (Go.bits .and .u64 (IntKind.u64.wrap ((Go.bits .and .u64 (a0 / 2) 6148914691236517205) + (Go.bits .and .u64 a0 6148914691236517205))) 3689348814741910323))))) 1085102592571150095) / 256))) + ((IntKind.u64.wrap ((Go.bits .and .u64 (IntKind.u64.wrap (((IntKind.u64.wrap ((Go.bits .and .u64 ((IntKind.u64.wrap ((Go.bits .and .u64 (a0 / 2) 6148914691236517205) + (Go.bits .and .u64 a0 6148914691236517205))) / 4) 3689348814741910323) + (Go.bits .and .u64 (IntKind.u64.wrap ((Go.bits .and .u64 (a0 / 2) 6148914691236517205) + (Go.bits .and .u64 a0 6148914691236517205))) 3689348814741910323))) / 16) + (IntKind.u64.wrap ((Go.bits .and .u64 ((IntKind.u64.wrap ((Go.bits .and .u64 (a0 / 2) 6148914691236517205) + (Go.bits .and .u64 a0 6148914691236517205))) / 4) 3689348814741910323) + (Go.bits .and .u64 (IntKind.u64.wrap ((Go.bits .and .u64 (a0 / 2) 6148914691236517205) + (Go.bits .and .u64 a0 6148914691236517205))) 3689348814741910323))))) 1085102592571150095) + ((Go.bits .and .u64 (IntKind.u64.wrap (((IntKind.u64.wrap ((Go.bits .and .u64 ((IntKind.u64.wrap ((Go.bits .and .u64 (a0 / 2) 6148914691236517205) + (Go.bits .and .u64 a0 6148914691236517205))) / 4) 3689348814741910323) + (Go.bits .and .u64 (IntKind.u64.wrap ((Go.bits .and .u64 (a0 / 2) 6148914691236517205) + (Go.bits .and .u64 a0 6148914691236517205))) 3689348814741910323))) / 16) + (IntKind.u64.wrap ((Go.bits .and .u64 ((IntKind.u64.wrap ((Go.bits .and .u64 (a0 / 2) 6148914691236517205) + (Go.bits .and .u64 a0 6148914691236517205))) / 4) 3689348814741910323) + (Go.bits .and .u64 (IntKind.u64.wrap ((Go.bits .and .u64 (a0 / 2) 6148914691236517205) + (Go.bits .and .u64 a0 6148914691236517205))) 3689348814741910323))))) 1085102592571150095) / 256))) / 65536))) / 4294967296)))) 127)) = some r := h
  clear h
  obtain rfl := Option.some.inj H
  go_enter Try.func81, Try.ntmps81
  go_wp2
  go_ret
  exact ⟨by first | rfl | (simp; done) | (simp [*]; done), by repeat (first | exact Drawn0.refl _ | apply Drawn0.step)⟩

/-! ### bits_Count_uint8: function 43 -/
def bits_Count_uint8.f (a0 : Int) : Option (Int) := (bits_OnesCount64.f (IntKind.u64.wrap (a0))).bind fun t102 => (some t102)
set_option maxHeartbeats 8000000 in
set_option maxRecDepth 100000 in
theorem bits_Count_uint8.calls (a0 : Int) (r : Int) (w : World) (h : bits_Count_uint8.f a0 = some r) :
    Calls Try.prog 43 #[.int .u8 a0] w fun e w' => e = .returned (.int .i64 r) ∧ Drawn0 w w' := by
  have H : ((bits_OnesCount64.f (IntKind.u64.wrap (a0))).bind fun t102 => (some t102)) = some r := h
  clear h
  replace H := Option.bind_eq_some_iff.mp H
  obtain ⟨t102, A20, H⟩ := H
  replace H : (some t102) = some r := H
  have A2 := Aside0.mk A20
  clear A20
  obtain rfl := Option.some.inj H
  go_enter Try.func43, Try.ntmps43
  go_wp2_with (first | ((with_reducible refine gate_callee (f := 81) rfl ?_); refine goesL_ (some 5) rfl rfl Try.func81 (by kernel_rfl) rfl #[.int .u64 (IntKind.u64.wrap (a0))] rfl (by (try simp only [List.map_toArray, List.map_cons, List.map_nil]); first | done | rfl | (simp only [List.length_drop, List.length_take]; rfl)) ?_; (with_reducible refine (bits_OnesCount64.calls (IntKind.u64.wrap (a0)) t102 _ A2.out).mono ?_); rintro e w' ⟨rfl, ⟨nd, rfl⟩⟩; refine ⟨_, rfl, ?_⟩))
  go_ret
  exact ⟨by first | rfl | (simp; done) | (simp [*]; done), by repeat (first | exact Drawn0.refl _ | apply Drawn0.step)⟩

/-! ### bits_Ceil_uint8: function 46 -/
def bits_Ceil_uint8.f (k : Nat) (a0 : Int) : Option (Int × Bool) := if a0 ≤ 1 then (some (1, true)) else ((bits_Log_uint8.f k ((a0 - 1) % 256)).bind fun t103 => (if 0 ≤ (wrap64 (t103 + 1)) then (some (shl .u8 1 (wrap64 (t103 + 1)), ((shl .u8 1 (wrap64 (t103 + 1))) != 0))) else (none)))
theorem bits_Ceil_uint8.mono : ∀ a0 k, LeO (bits_Ceil_uint8.f k a0) (bits_Ceil_uint8.f (k + 1) a0) := by
  intro a0 k
  unfold bits_Ceil_uint8.f
  repeat' first
      | (with_reducible exact bits_Log_uint8.mono _ _)
      | (with_reducible exact LeO.refl _)
      | (with_reducible exact LeO.none _)
      | (with_reducible refine LeO.ite ?_ ?_)
      | (with_reducible refine LeO.bind ?_ (fun _ => ?_))
      | exact bits_Log_uint8.mono _ _
      | exact LeO.none _
      | refine LeO.ite ?_ ?_
      | refine LeO.bind ?_ (fun _ => ?_)
set_option maxHeartbeats 8000000 in
set_option maxRecDepth 100000 in
theorem bits_Ceil_uint8.calls (k : Nat) (a0 : Int) (r1 : Int) (r2 : Bool) (w : World) (h : bits_Ceil_uint8.f k a0 = some (r1, r2)) :
    Calls Try.prog 46 #[.int .u8 a0] w fun e w' => e = .returned (.tuple #[.int .u8 r1, .bool r2]) ∧ Drawn0 w w' := by
  have H : (if a0 ≤ 1 then (some (1, true)) else ((bits_Log_uint8.f k ((a0 - 1) % 256)).bind fun t103 => (if 0 ≤ (wrap64 (t103 + 1)) then (some (shl .u8 1 (wrap64 (t103 + 1)), ((shl .u8 1 (wrap64 (t103 + 1))) != 0))) else (none)))) = some (r1, r2) := h
  clear h
  by_cases c2 : a0 ≤ 1
  · rw [if_pos c2] at H
    have c2b0 : decide (a0 ≤ 1) = true := decide_eq_true c2
    clear c2
    simp only [Option.some.injEq, Prod.mk.injEq] at H
    obtain ⟨rfl, rfl⟩ := H
    go_enter Try.func46, Try.ntmps46
    go_wp2
    go_ret2
    exact ⟨by first | rfl | (simp; done) | (simp [*]; done), by repeat (first | exact Drawn0.refl _ | apply Drawn0.step)⟩
  · rw [if_neg c2] at H
    have c2b0 : decide (a0 ≤ 1) = false := decide_eq_false c2
    clear c2
    replace H := Option.bind_eq_some_iff.mp H
    obtain ⟨t103, A30, H⟩ := H
    replace H : (if 0 ≤ (wrap64 (t103 + 1)) then (some (shl .u8 1 (wrap64 (t103 + 1)), ((shl .u8 1 (wrap64 (t103 + 1))) != 0))) else (none)) = some (r1, r2) := H
    have A3 := Aside0.mk A30
    clear A30
    obtain ⟨ji4, hji4⟩ : ∃ j_ : Int, (wrap64 (t103 + 1)) = j_ := ⟨_, rfl⟩
    replace H : (if 0 ≤ (ji4) then (some (shl .u8 1 (ji4), ((shl .u8 1 (ji4)) != 0))) else (none)) = some (r1, r2) := by first | (rw [hji4] at H; exact H) | (simp only [hji4] at H ⊢; exact H)
    (try rw [hji4] at A3)
    have hji4w : (IntKind.i64.wrap (t103 + 1)) = ji4 := (i64_w _).trans hji4
    by_cases c5 : 0 ≤ (ji4)
    · rw [if_pos c5] at H
      have c5b0 := eq_true c5
      have c5b1 : decide (0 ≤ (ji4)) = true := decide_eq_true c5
      clear c5
      obtain ⟨ji6, hji6⟩ : ∃ j_ : Int, (shl .u8 1 (ji4)) = j_ := ⟨_, rfl⟩
      replace H : (some (ji6, ((ji6) != 0))) = some (r1, r2) := by first | (rw [hji6] at H; exact H) | (simp only [hji6] at H ⊢; exact H)
      (try rw [hji6] at A3)
      have hji6_ : (IntKind.u8.wrap (1 * 2 ^ min (ji4).toNat 8)) = ji6 := hji6
      have hji6z : (ji4) ≤ 8 → (IntKind.u8.wrap (1 * 2 ^ (ji4).toNat)) = ji6 := shl_small hji6
      have hji6u : (IntKind.u8.wrap (2 ^ min (ji4).toNat 8)) = ji6 := by have h_ := hji6_; rw [Int.one_mul] at h_; exact h_
      have hji6v : (ji4) ≤ 8 → (IntKind.u8.wrap (2 ^ (ji4).toNat)) = ji6 := fun hle_ => by have h_ := hji6z hle_; rw [Int.one_mul] at h_; exact h_
      simp only [Option.some.injEq, Prod.mk.injEq] at H
      obtain ⟨rfl, rfl⟩ := H
      go_enter Try.func46, Try.ntmps46
      go_wp2_with (first | ((with_reducible refine gate_callee (f := 40) rfl ?_); refine goesL_ (some 10) rfl rfl Try.func40 (by kernel_rfl) rfl #[.int .u8 ((a0 - 1) % 256)] rfl (by (try simp only [List.map_toArray, List.map_cons, List.map_nil]); first | done | rfl | (simp only [List.length_drop, List.length_take]; rfl)) ?_; (with_reducible refine (bits_Log_uint8.calls k ((a0 - 1) % 256) t103 _ A3.out).mono ?_); rintro e w' ⟨rfl, ⟨nd, rfl⟩⟩; refine ⟨_, rfl, ?_⟩))
      go_ret2
      exact ⟨by first | rfl | (simp; done) | (simp only [← hji4, ← hji6] <;> (first | rfl | simp)) | (simp [*]; done), by repeat (first | exact Drawn0.refl _ | apply Drawn0.step)⟩
    · rw [if_neg c5] at H
      exact absurd H (by simp)

/-! ### croftref1_Log: function 69 -/
def croftref1_Log.l0 : Nat → Int → Int → Option (Int)
  | 0, _, _ => none
  | k + 1, x0, x5 => if x5 ≥ 0 then ((croftref1_Power.f k x5).bind fun t105 => (if t105 ≤ x0 then (some x5) else (croftref1_Log.l0 k x0 (wrap64 (x5 - 1))))) else (some (-1))
def croftref1_Log.f (k : Nat) (a0 : Int) (a1 : Int) : Option (Int) := croftref1_Log.l0 k a0 (wrap64 (a1 - 1))
theorem croftref1_Log.mono_l : ∀ k, (∀ y0 y1, LeO (croftref1_Log.l0 k y0 y1) (croftref1_Log.l0 (k + 1) y0 y1))
  | 0 => fun _ _ r h => by simp [croftref1_Log.l0] at h
  | k + 1 => by
    have ih0 := croftref1_Log.mono_l k
    · intro y0 y1
      unfold croftref1_Log.l0
      repeat' first
      | (with_reducible exact ih0 _ _)
      | (with_reducible exact croftref1_Power.mono _ _)
      | (with_reducible exact LeO.refl _)
      | (with_reducible exact LeO.none _)
      | (with_reducible refine LeO.ite ?_ ?_)
      | (with_reducible refine LeO.bind ?_ (fun _ => ?_))
      | exact ih0 _ _
      | exact croftref1_Power.mono _ _
      | exact LeO.none _
      | refine LeO.ite ?_ ?_
      | refine LeO.bind ?_ (fun _ => ?_)
theorem croftref1_Log.mono : ∀ a0 a1 k, LeO (croftref1_Log.f k a0 a1) (croftref1_Log.f (k + 1) a0 a1) := by
  intro a0 a1 k
  have ih0 := croftref1_Log.mono_l k
  unfold croftref1_Log.f
  repeat' first
      | (with_reducible exact ih0 _ _)
      | (with_reducible exact croftref1_Power.mono _ _)
      | (with_reducible exact LeO.refl _)
      | (with_reducible exact LeO.none _)
      | (with_reducible refine LeO.ite ?_ ?_)
      | (with_reducible refine LeO.bind ?_ (fun _ => ?_))
      | exact ih0 _ _
      | exact croftref1_Power.mono _ _
      | exact LeO.none _
      | refine LeO.ite ?_ ?_
      | refine LeO.bind ?_ (fun _ => ?_)
set_option maxHeartbeats 8000000 in
set_option maxRecDepth 100000 in
theorem croftref1_Log.calls (k : Nat) (a0 : Int) (a1 : Int) (r : Int) (w : World) (h : croftref1_Log.f k a0 a1 = some r) :
    Calls Try.prog 69 #[.int .u64 a0, .int .i64 a1] w fun e w' => e = .returned (.int .i64 r) ∧ Drawn0 w w' := by
  have H : (croftref1_Log.l0 k a0 (wrap64 (a1 - 1))) = some r := h
  clear h
  have H' := Aside0.mk H
  clear H
  go_enter Try.func69, Try.ntmps69
  go_wp2
  go_loopg [5] k (fun kq v5 w' => ∃ (x5_1 : Int), v5 = .int .i64 x5_1 ∧ Aside0 (croftref1_Log.l0 kq a0 x5_1 = some r) ∧ Aside0 (kq ≤ k) ∧ Drawn0 w w')
  case atStart => exact ⟨(wrap64 (a1 - 1)), (by first | rfl | (simp; done) | (simp [*]; done)), H', ⟨Nat.le_refl _⟩, by repeat (first | exact Drawn0.refl _ | apply Drawn0.step)⟩
  case round =>
    clear H'
    try clear p2
    obtain ⟨x5_1, rfl, HA, HK1, ⟨m1, rfl⟩⟩ := hrel
    cases gk with
    | zero => exact absurd HA.out (by simp [croftref1_Log.l0])
    | succ k1 =>
      have H := HA.out
      clear HA
      simp only [croftref1_Log.l0] at H
      by_cases c3 : x5_1 ≥ 0
      · rw [if_pos c3] at H
        have c3b0 : decide (0 ≤ x5_1) = true := decide_eq_true c3
        clear c3
        replace H := Option.bind_eq_some_iff.mp H
        obtain ⟨t105, A40, H⟩ := H
        replace H : (if t105 ≤ a0 then (some x5_1) else (croftref1_Log.l0 k1 a0 (wrap64 (x5_1 - 1)))) = some r := H
        have A4 := Aside0.mk A40
        clear A40
        by_cases c5 : t105 ≤ a0
        · rw [if_pos c5] at H
          have c5b0 : decide (t105 ≤ a0) = true := decide_eq_true c5
          clear c5
          obtain rfl := Option.some.inj H
          go_wp2_with (first | ((with_reducible refine gate_callee (f := 65) rfl ?_); refine goesL_ (some 13) rfl rfl Try.func65 (by kernel_rfl) rfl #[.int .i64 x5_1] rfl (by (try simp only [List.map_toArray, List.map_cons, List.map_nil]); first | done | rfl | (simp only [List.length_drop, List.length_take]; rfl)) ?_; (with_reducible refine (croftref1_Power.calls k1 x5_1 t105 _ A4.out).mono ?_); rintro e w' ⟨rfl, ⟨nd, rfl⟩⟩; refine ⟨_, rfl, ?_⟩))
          go_ret
          exact ⟨by first | rfl | (simp; done) | (simp [*]; done), by repeat (first | exact Drawn0.refl _ | apply Drawn0.step)⟩
        · rw [if_neg c5] at H
          have c5b0 : decide (t105 ≤ a0) = false := decide_eq_false c5
          clear c5
          have H' := Aside0.mk H
          clear H
          go_wp2_with (first | ((with_reducible refine gate_callee (f := 65) rfl ?_); refine goesL_ (some 13) rfl rfl Try.func65 (by kernel_rfl) rfl #[.int .i64 x5_1] rfl (by (try simp only [List.map_toArray, List.map_cons, List.map_nil]); first | done | rfl | (simp only [List.length_drop, List.length_take]; rfl)) ?_; (with_reducible refine (croftref1_Power.calls k1 x5_1 t105 _ A4.out).mono ?_); rintro e w' ⟨rfl, ⟨nd, rfl⟩⟩; refine ⟨_, rfl, ?_⟩))
          go_roundg k1
          case measure => have := HK1.out; omega
          case rel => exact ⟨(wrap64 (x5_1 - 1)), (by first | rfl | (simp; done) | (simp [*]; done)), H', ⟨by have := HK1.out; omega⟩, by repeat (first | exact Drawn0.refl _ | apply Drawn0.step)⟩
      · rw [if_neg c3] at H
        have c3b0 : decide (0 ≤ x5_1) = false := decide_eq_false c3
        clear c3
        obtain rfl := Option.some.inj H
        go_wp2
        go_ret
        exact ⟨by first | rfl | (simp; done) | (simp [*]; done), by repeat (first | exact Drawn0.refl _ | apply Drawn0.step)⟩

/-! ### croftref1_Count: function 70 -/
def croftref1_Count.l0 : Nat → Int → Int → Option (Int)
  | 0, _, _ => none
  | k + 1, x0, x3 => if x0 > 0 then (if (Int.tmod x0 2) = 1 then (croftref1_Count.l0 k (IntKind.u64.wrap (Int.tdiv x0 2)) (wrap64 (x3 + 1))) else (croftref1_Count.l0 k (IntKind.u64.wrap (Int.tdiv x0 2)) x3)) else (some x3)
def croftref1_Count.f (k : Nat) (a0 : Int) : Option (Int) := croftref1_Count.l0 k a0 0
theorem croftref1_Count.mono_l : ∀ k, (∀ y0 y1, LeO (croftref1_Count.l0 k y0 y1) (croftref1_Count.l0 (k + 1) y0 y1))
  | 0 => fun _ _ r h => by simp [croftref1_Count.l0] at h
  | k + 1 => by
    have ih0 := croftref1_Count.mono_l k
    · intro y0 y1
      unfold croftref1_Count.l0
      repeat' first
      | (with_reducible exact ih0 _ _)
      | (with_reducible exact LeO.refl _)
      | (with_reducible exact LeO.none _)
      | (with_reducible refine LeO.ite ?_ ?_)
      | (with_reducible refine LeO.bind ?_ (fun _ => ?_))
      | exact ih0 _ _
      | exact LeO.none _
      | refine LeO.ite ?_ ?_
      | refine LeO.bind ?_ (fun _ => ?_)
theorem croftref1_Count.mono : ∀ a0 k, LeO (croftref1_Count.f k a0) (croftref1_Count.f (k + 1) a0) := by
  intro a0 k
  have ih0 := croftref1_Count.mono_l k
  unfold croftref1_Count.f
  repeat' first
      | (with_reducible exact ih0 _ _)
      | (with_reducible exact LeO.refl _)
      | (with_reducible exact LeO.none _)
      | (with_reducible refine LeO.ite ?_ ?_)
      | (with_reducible refine LeO.bind ?_ (fun _ => ?_))
      | exact ih0 _ _
      | exact LeO.none _
      | refine LeO.ite ?_ ?_
      | refine LeO.bind ?_ (fun _ => ?_)
set_option maxHeartbeats 8000000 in
set_option maxRecDepth 100000 in
theorem croftref1_Count.calls (k : Nat) (a0 : Int) (r : Int) (w : World) (h : croftref1_Count.f k a0 = some r) :
    Calls Try.prog 70 #[.int .u64 a0] w fun e w' => e = .returned (.int .i64 r) ∧ Drawn0 w w' := by
  have H : (croftref1_Count.l0 k a0 0) = some r := h
  clear h
  have H' := Aside0.mk H
  clear H
  go_enter Try.func70, Try.ntmps70
  go_wp2
  go_loopg [0, 3] k (fun kq v0 v3 w' => ∃ (x0_1 : Int) (x3_1 : Int), v0 = .int .u64 x0_1 ∧ v3 = .int .i64 x3_1 ∧ Aside0 (croftref1_Count.l0 kq x0_1 x3_1 = some r) ∧ Aside0 (kq ≤ k) ∧ Drawn0 w w')
  case atStart => exact ⟨(a0), (0), (by first | rfl | (simp; done) | (simp [*]; done)), (by first | rfl | (simp; done) | (simp [*]; done)), H', ⟨Nat.le_refl _⟩, by repeat (first | exact Drawn0.refl _ | apply Drawn0.step)⟩
  case round =>
    clear H'
    obtain ⟨x0_1, x3_1, rfl, rfl, HA, HK1, ⟨m1, rfl⟩⟩ := hrel
    cases gk with
    | zero => exact absurd HA.out (by simp [croftref1_Count.l0])
    | succ k1 =>
      have H := HA.out
      clear HA
      simp only [croftref1_Count.l0] at H
      by_cases c2 : x0_1 > 0
      · rw [if_pos c2] at H
        have c2b0 : decide (0 < x0_1) = true := decide_eq_true c2
        clear c2
        by_cases c3 : (Int.tmod x0_1 2) = 1
        · rw [if_pos c3] at H
          have c3b0 : ((Int.tmod x0_1 2) == 1) = true := beq_iff_eq.mpr c3
          have c3b1 : ((Int.tmod x0_1 2) != 1) = false := bne_eq_false_iff_eq.mpr c3
          clear c3
          have H' := Aside0.mk H
          clear H
          go_wp2
          go_roundg k1
          case measure => have := HK1.out; omega
          case rel => exact ⟨(IntKind.u64.wrap (Int.tdiv x0_1 2)), (wrap64 (x3_1 + 1)), (by first | rfl | (simp; done) | (simp [*]; done)), (by first | rfl | (simp; done) | (simp [*]; done)), H', ⟨by have := HK1.out; omega⟩, by repeat (first | exact Drawn0.refl _ | apply Drawn0.step)⟩
        · rw [if_neg c3] at H
          have c3b0 : ((Int.tmod x0_1 2) == 1) = false := beq_eq_false_iff_ne.mpr c3
          have c3b1 : ((Int.tmod x0_1 2) != 1) = true := bne_iff_ne.mpr c3
          have H' := Aside0.mk H
          clear H
          go_wp2
          go_roundg k1
          case measure => have := HK1.out; omega
          case rel => exact ⟨(IntKind.u64.wrap (Int.tdiv x0_1 2)), (x3_1), (by first | rfl | (simp; done) | (simp [*]; done)), (by first | rfl | (simp; done) | (simp [*]; done)), H', ⟨by have := HK1.out; omega⟩, by repeat (first | exact Drawn0.refl _ | apply Drawn0.step)⟩
      · rw [if_neg c2] at H
        have c2b0 : decide (0 < x0_1) = false := decide_eq_false c2
        clear c2
        obtain rfl := Option.some.inj H
        go_wp2
        go_ret
        exact ⟨by first | rfl | (simp; done) | (simp [*]; done), by repeat (first | exact Drawn0.refl _ | apply Drawn0.step)⟩

/-! ### croftref1_Ceil: function 71 -/
def croftref1_Ceil.l0 : Nat → Int → Int → Int → Option (Int × Bool)
  | 0, _, _, _ => none
  | k + 1, x0, x1, x6 => if x6 < x1 then ((croftref1_Power.f k x6).bind fun t106 => (if t106 ≥ x0 then ((croftref1_Power.f k x6).bind fun t107 => (some (t107, true))) else (croftref1_Ceil.l0 k x0 x1 (wrap64 (x6 + 1))))) else (some (0, false))
def croftref1_Ceil.f (k : Nat) (a0 : Int) (a1 : Int) : Option (Int × Bool) := croftref1_Ceil.l0 k a0 a1 0
theorem croftref1_Ceil.mono_l : ∀ k, (∀ y0 y1 y2, LeO (croftref1_Ceil.l0 k y0 y1 y2) (croftref1_Ceil.l0 (k + 1) y0 y1 y2))
  | 0 => fun _ _ _ r h => by simp [croftref1_Ceil.l0] at h
  | k + 1 => by
    have ih0 := croftref1_Ceil.mono_l k
    · intro y0 y1 y2
      unfold croftref1_Ceil.l0
      repeat' first
      | (with_reducible exact ih0 _ _ _)
      | (with_reducible exact croftref1_Power.mono _ _)
      | (with_reducible exact LeO.refl _)
      | (with_reducible exact LeO.none _)
      | (with_reducible refine LeO.ite ?_ ?_)
      | (with_reducible refine LeO.bind ?_ (fun _ => ?_))
      | exact ih0 _ _ _
      | exact croftref1_Power.mono _ _
      | exact LeO.none _
      | refine LeO.ite ?_ ?_
      | refine LeO.bind ?_ (fun _ => ?_)
theorem croftref1_Ceil.mono : ∀ a0 a1 k, LeO (croftref1_Ceil.f k a0 a1) (croftref1_Ceil.f (k + 1) a0 a1) := by
  intro a0 a1 k
  have ih0 := croftref1_Ceil.mono_l k
  unfold croftref1_Ceil.f
  repeat' first
      | (with_reducible exact ih0 _ _ _)
      | (with_reducible exact croftref1_Power.mono _ _)
      | (with_reducible exact LeO.refl _)
      | (with_reducible exact LeO.none _)
      | (with_reducible refine LeO.ite ?_ ?_)
      | (with_reducible refine LeO.bind ?_ (fun _ => ?_))
      | exact ih0 _ _ _
      | exact croftref1_Power.mono _ _
      | exact LeO.none _
      | refine LeO.ite ?_ ?_
      | refine LeO.bind ?_ (fun _ => ?_)
set_option maxHeartbeats 8000000 in
set_option maxRecDepth 100000 in
theorem croftref1_Ceil.calls (k : Nat) (a0 : Int) (a1 : Int) (r1 : Int) (r2 : Bool) (w : World) (h : croftref1_Ceil.f k a0 a1 = some (r1, r2)) :
    Calls Try.prog 71 #[.int .u64 a0, .int .i64 a1] w fun e w' => e = .returned (.tuple #[.int .u64 r1, .bool r2]) ∧ Drawn0 w w' := by
  have H : (croftref1_Ceil.l0 k a0 a1 0) = some (r1, r2) := h
  clear h
  have H' := Aside0.mk H
  clear H
  go_enter Try.func71, Try.ntmps71
  go_wp2
  go_loopg [6] k (fun kq v6 w' => ∃ (x6_1 : Int), v6 = .int .i64 x6_1 ∧ Aside0 (croftref1_Ceil.l0 kq a0 a1 x6_1 = some (r1, r2)) ∧ Aside0 (kq ≤ k) ∧ Drawn0 w w')
  case atStart => exact ⟨(0), (by first | rfl | (simp; done) | (simp [*]; done)), H', ⟨Nat.le_refl _⟩, by repeat (first | exact Drawn0.refl _ | apply Drawn0.step)⟩
  case round =>
    clear H'
    try clear p2
    obtain ⟨x6_1, rfl, HA, HK1, ⟨m1, rfl⟩⟩ := hrel
    cases gk with
    | zero => exact absurd HA.out (by simp [croftref1_Ceil.l0])
    | succ k1 =>
      have H := HA.out
      clear HA
      simp only [croftref1_Ceil.l0] at H
      by_cases c3 : x6_1 < a1
      · rw [if_pos c3] at H
        have c3b0 : decide (x6_1 < a1) = true := decide_eq_true c3
        clear c3
        replace H := Option.bind_eq_some_iff.mp H
        obtain ⟨t106, A40, H⟩ := H
        replace H : (if t106 ≥ a0 then ((croftref1_Power.f k1 x6_1).bind fun t107 => (some (t107, true))) else (croftref1_Ceil.l0 k1 a0 a1 (wrap64 (x6_1 + 1)))) = some (r1, r2) := H
        have A4 := Aside0.mk A40
        clear A40
        by_cases c5 : t106 ≥ a0
        · rw [if_pos c5] at H
          have c5b0 : decide (a0 ≤ t106) = true := decide_eq_true c5
          clear c5
          replace H := Option.bind_eq_some_iff.mp H
          obtain ⟨t107, A60, H⟩ := H
          replace H : (some (t107, true)) = some (r1, r2) := H
          have A6 := Aside0.mk A60
          clear A60
          simp only [Option.some.injEq, Prod.mk.injEq] at H
          obtain ⟨rfl, rfl⟩ := H
          go_wp2_with (first | ((with_reducible refine gate_callee (f := 65) rfl ?_); refine goesL_ (some 13) rfl rfl Try.func65 (by kernel_rfl) rfl #[.int .i64 x6_1] rfl (by (try simp only [List.map_toArray, List.map_cons, List.map_nil]); first | done | rfl | (simp only [List.length_drop, List.length_take]; rfl)) ?_; (with_reducible refine (croftref1_Power.calls k1 x6_1 t106 _ A4.out).mono ?_); rintro e w' ⟨rfl, ⟨nd, rfl⟩⟩; refine ⟨_, rfl, ?_⟩) | ((with_reducible refine gate_callee (f := 65) rfl ?_); refine goesL_ (some 17) rfl rfl Try.func65 (by kernel_rfl) rfl #[.int .i64 x6_1] rfl (by (try simp only [List.map_toArray, List.map_cons, List.map_nil]); first | done | rfl | (simp only [List.length_drop, List.length_take]; rfl)) ?_; (with_reducible refine (croftref1_Power.calls k1 x6_1 t107 _ A6.out).mono ?_); rintro e w' ⟨rfl, ⟨nd, rfl⟩⟩; refine ⟨_, rfl, ?_⟩))
          go_ret2
          exact ⟨by first | rfl | (simp; done) | (simp [*]; done), by repeat (first | exact Drawn0.refl _ | apply Drawn0.step)⟩
        · rw [if_neg c5] at H
          have c5b0 : decide (a0 ≤ t106) = false := decide_eq_false c5
          clear c5
          have H' := Aside0.mk H
          clear H
          go_wp2_with (first | ((with_reducible refine gate_callee (f := 65) rfl ?_); refine goesL_ (some 13) rfl rfl Try.func65 (by kernel_rfl) rfl #[.int .i64 x6_1] rfl (by (try simp only [List.map_toArray, List.map_cons, List.map_nil]); first | done | rfl | (simp only [List.length_drop, List.length_take]; rfl)) ?_; (with_reducible refine (croftref1_Power.calls k1 x6_1 t106 _ A4.out).mono ?_); rintro e w' ⟨rfl, ⟨nd, rfl⟩⟩; refine ⟨_, rfl, ?_⟩))
          go_roundg k1
          case measure => have := HK1.out; omega
          case rel => exact ⟨(wrap64 (x6_1 + 1)), (by first | rfl | (simp; done) | (simp [*]; done)), H', ⟨by have := HK1.out; omega⟩, by repeat (first | exact Drawn0.refl _ | apply Drawn0.step)⟩
      · rw [if_neg c3] at H
        have c3b0 : decide (x6_1 < a1) = false := decide_eq_false c3
        clear c3
        simp only [Option.some.injEq, Prod.mk.injEq] at H
        obtain ⟨rfl, rfl⟩ := H
        go_wp2
        go_ret2
        exact ⟨by first | rfl | (simp; done) | (simp [*]; done), by repeat (first | exact Drawn0.refl _ | apply Drawn0.step)⟩

/-! ### croftlaw1_powers_uint8: function 25 -/
def croftlaw1_powers_uint8.j0 : Nat → Int → Int → Int → Bool → Option (Bool)
  | 0, _, _, _, _ => none
  | k + 1, x1, x5, x6, x36 => if x36 = true then (some false) else ((bits_Ceil_uint8.f k x5).bind fun bt115 => ((croftref1_Ceil.f k x6 x1).bind fun bt117 => (if (IntKind.u64.wrap (bt115.1)) = bt117.1 then (some (bt115.2 == bt117.2)) else (some false))))
def croftlaw1_powers_uint8.f (k : Nat) (a0 : Int) (a1 : Int) : Option (Bool) := (croftref1_Cut.f a0 a1).bind fun t108 => ((bits_IsPower_uint8.f ((a0) % 256)).bind fun t109 => ((croftref1_IsPower.f k t108 a1).bind fun t110 => (if (t109 != t110) = true then (croftlaw1_powers_uint8.j0 k a1 ((a0) % 256) t108 true) else ((bits_Log_uint8.f k ((a0) % 256)).bind fun t111 => ((croftref1_Log.f k t108 a1).bind fun t112 => (if t111 = t112 then ((bits_Count_uint8.f ((a0) % 256)).bind fun t113 => ((croftref1_Count.f k t108).bind fun t114 => (croftlaw1_powers_uint8.j0 k a1 ((a0) % 256) t108 (t113 != t114)))) else (croftlaw1_powers_uint8.j0 k a1 ((a0) % 256) t108 true)))))))
theorem croftlaw1_powers_uint8.mono_l : ∀ k, (∀ y0 y1 y2 y3, LeO (croftlaw1_powers_uint8.j0 k y0 y1 y2 y3) (croftlaw1_powers_uint8.j0 (k + 1) y0 y1 y2 y3))
  | 0 => fun _ _ _ _ r h => by simp [croftlaw1_powers_uint8.j0] at h
  | k + 1 => by
    have ih0 := croftlaw1_powers_uint8.mono_l k
    · intro y0 y1 y2 y3
      unfold croftlaw1_powers_uint8.j0
      repeat' first
      | (with_reducible exact ih0 _ _ _ _)
      | (with_reducible exact bits_Ceil_uint8.mono _ _)
      | (with_reducible exact bits_Log_uint8.mono _ _)
      | (with_reducible exact croftref1_Ceil.mono _ _ _)
      | (with_reducible exact croftref1_Count.mono _ _)
      | (with_reducible exact croftref1_IsPower.mono _ _ _)
      | (with_reducible exact croftref1_Log.mono _ _ _)
      | (with_reducible exact LeO.refl _)
      | (with_reducible exact LeO.none _)
      | (with_reducible refine LeO.ite ?_ ?_)
      | (with_reducible refine LeO.bind ?_ (fun _ => ?_))
      | exact ih0 _ _ _ _
      | exact bits_Ceil_uint8.mono _ _
      | exact bits_Log_uint8.mono _ _
      | exact croftref1_Ceil.mono _ _ _
      | exact croftref1_Count.mono _ _
      | exact croftref1_IsPower.mono _ _ _
      | exact croftref1_Log.mono _ _ _
      | exact LeO.none _
      | refine LeO.ite ?_ ?_
      | refine LeO.bind ?_ (fun _ => ?_)
theorem croftlaw1_powers_uint8.mono : ∀ a0 a1 k, LeO (croftlaw1_powers_uint8.f k a0 a1) (croftlaw1_powers_uint8.f (k + 1) a0 a1) := by
  intro a0 a1 k
  have ih0 := croftlaw1_powers_uint8.mono_l k
  unfold croftlaw1_powers_uint8.f
  repeat' first
      | (with_reducible exact ih0 _ _ _ _)
      | (with_reducible exact bits_Ceil_uint8.mono _ _)
      | (with_reducible exact bits_Log_uint8.mono _ _)
      | (with_reducible exact croftref1_Ceil.mono _ _ _)
      | (with_reducible exact croftref1_Count.mono _ _)
      | (with_reducible exact croftref1_IsPower.mono _ _ _)
      | (with_reducible exact croftref1_Log.mono _ _ _)
      | (with_reducible exact LeO.refl _)
      | (with_reducible exact LeO.none _)
      | (with_reducible refine LeO.ite ?_ ?_)
      | (with_reducible refine LeO.bind ?_ (fun _ => ?_))
      | exact ih0 _ _ _ _
      | exact bits_Ceil_uint8.mono _ _
      | exact bits_Log_uint8.mono _ _
      | exact croftref1_Ceil.mono _ _ _
      | exact croftref1_Count.mono _ _
      | exact croftref1_IsPower.mono _ _ _
      | exact croftref1_Log.mono _ _ _
      | exact LeO.none _
      | refine LeO.ite ?_ ?_
      | refine LeO.bind ?_ (fun _ => ?_)
set_option maxHeartbeats 8000000 in
set_option maxRecDepth 100000 in
theorem croftlaw1_powers_uint8.calls (k : Nat) (a0 : Int) (a1 : Int) (r : Bool) (w : World) (h : croftlaw1_powers_uint8.f k a0 a1 = some r) :
    Calls Try.prog 25 #[.int .u64 a0, .int .i64 a1] w fun e w' => e = .returned (.bool r) ∧ Drawn0 w w' := by
  have H : ((croftref1_Cut.f a0 a1).bind fun t108 => ((bits_IsPower_uint8.f ((a0) % 256)).bind fun t109 => ((croftref1_IsPower.f k t108 a1).bind fun t110 => (if (t109 != t110) = true then (croftlaw1_powers_uint8.j0 k a1 ((a0) % 256) t108 true) else ((bits_Log_uint8.f k ((a0) % 256)).bind fun t111 => ((croftref1_Log.f k t108 a1).bind fun t112 => (if t111 = t112 then ((bits_Count_uint8.f ((a0) % 256)).bind fun t113 => ((croftref1_Count.f k t108).bind fun t114 => (croftlaw1_powers_uint8.j0 k a1 ((a0) % 256) t108 (t113 != t114)))) else (croftlaw1_powers_uint8.j0 k a1 ((a0) % 256) t108 true)))))))) = some r := h
  clear h
  replace H := Option.bind_eq_some_iff.mp H
  obtain ⟨t108, A30, H⟩ := H
  replace H : ((bits_IsPower_uint8.f ((a0) % 256)).bind fun t109 => ((croftref1_IsPower.f k t108 a1).bind fun t110 => (if (t109 != t110) = true then (croftlaw1_powers_uint8.j0 k a1 ((a0) % 256) t108 true) else ((bits_Log_uint8.f k ((a0) % 256)).bind fun t111 => ((croftref1_Log.f k t108 a1).bind fun t112 => (if t111 = t112 then ((bits_Count_uint8.f ((a0) % 256)).bind fun t113 => ((croftref1_Count.f k t108).bind fun t114 => (croftlaw1_powers_uint8.j0 k a1 ((a0) % 256) t108 (t113 != t114)))) else (croftlaw1_powers_uint8.j0 k a1 ((a0) % 256) t108 true))))))) = some r := H
  have A3 := Aside0.mk A30
  clear A30
  have HC4 := Aside0.mk H
  clear H
  go_enter Try.func25, Try.ntmps25
  go_upto_region 3 with (first | ((with_reducible refine gate_callee (f := 52) rfl ?_); refine goesL_ (some 15) rfl rfl Try.func52 (by kernel_rfl) rfl #[.int .u64 a0, .int .i64 a1] rfl (by (try simp only [List.map_toArray, List.map_cons, List.map_nil]); first | done | rfl | (simp only [List.length_drop, List.length_take]; rfl)) ?_; (with_reducible refine (croftref1_Cut.calls a0 a1 t108 _ A3.out).mono ?_); rintro e w' ⟨rfl, ⟨nd, rfl⟩⟩; refine ⟨_, rfl, ?_⟩))
  (try simp only [Act.put, List.setIfInBounds_toArray, List.set_cons_zero, List.set_cons_succ])
  go_cut [36] (fun v36 wc => ∃ (kq : Nat) (x36_3 : Bool), v36 = .bool x36_3 ∧ Aside0 (croftlaw1_powers_uint8.j0 kq a1 ((a0) % 256) t108 x36_3 = some r) ∧ Aside0 (kq ≤ k) ∧ Drawn0 w wc)
  case first =>
    have H := HC4.out
    clear HC4
    replace H := Option.bind_eq_some_iff.mp H
    obtain ⟨t109, A50, H⟩ := H
    replace H : ((croftref1_IsPower.f k t108 a1).bind fun t110 => (if (t109 != t110) = true then (croftlaw1_powers_uint8.j0 k a1 ((a0) % 256) t108 true) else ((bits_Log_uint8.f k ((a0) % 256)).bind fun t111 => ((croftref1_Log.f k t108 a1).bind fun t112 => (if t111 = t112 then ((bits_Count_uint8.f ((a0) % 256)).bind fun t113 => ((croftref1_Count.f k t108).bind fun t114 => (croftlaw1_powers_uint8.j0 k a1 ((a0) % 256) t108 (t113 != t114)))) else (croftlaw1_powers_uint8.j0 k a1 ((a0) % 256) t108 true)))))) = some r := H
    have A5 := Aside0.mk A50
    clear A50
    replace H := Option.bind_eq_some_iff.mp H
    obtain ⟨t110, A60, H⟩ := H
    replace H : (if (t109 != t110) = true then (croftlaw1_powers_uint8.j0 k a1 ((a0) % 256) t108 true) else ((bits_Log_uint8.f k ((a0) % 256)).bind fun t111 => ((croftref1_Log.f k t108 a1).bind fun t112 => (if t111 = t112 then ((bits_Count_uint8.f ((a0) % 256)).bind fun t113 => ((croftref1_Count.f k t108).bind fun t114 => (croftlaw1_powers_uint8.j0 k a1 ((a0) % 256) t108 (t113 != t114)))) else (croftlaw1_powers_uint8.j0 k a1 ((a0) % 256) t108 true))))) = some r := H
    have A6 := Aside0.mk A60
    clear A60
    by_cases c7 : (t109 != t110) = true
    · rw [if_pos c7] at H
      have c7b0 : (t109 != t110) = true := c7
      (try (have c7b1 : decide (t109 = t110) = false := by simpa using c7))
      (try (have c7b2 : (t109 == t110) = false := by simpa using c7))
      (try (have c7b3 : ¬ (t109 = t110) := by simpa using c7))
      clear c7
      (first | rw [c7b0] | (simp only [i64_w, i32_w]; rw [c7b0]) | skip)
      have H' := Aside0.mk H
      clear H
      go_wp2_with (first | ((with_reducible refine gate_callee (f := 37) rfl ?_); refine goesL_ (some 17) rfl rfl Try.func37 (by kernel_rfl) rfl #[.int .u8 ((a0) % 256)] rfl (by (try simp only [List.map_toArray, List.map_cons, List.map_nil]); first | done | rfl | (simp only [List.length_drop, List.length_take]; rfl)) ?_; (with_reducible refine (bits_IsPower_uint8.calls ((a0) % 256) t109 _ A5.out).mono ?_); rintro e w' ⟨rfl, ⟨nd, rfl⟩⟩; refine ⟨_, rfl, ?_⟩) | ((with_reducible refine gate_callee (f := 68) rfl ?_); refine goesL_ (some 20) rfl rfl Try.func68 (by kernel_rfl) rfl #[.int .u64 t108, .int .i64 a1] rfl (by (try simp only [List.map_toArray, List.map_cons, List.map_nil]); first | done | rfl | (simp only [List.length_drop, List.length_take]; rfl)) ?_; (with_reducible refine (croftref1_IsPower.calls k t108 a1 t110 _ A6.out).mono ?_); rintro e w' ⟨rfl, ⟨nd, rfl⟩⟩; refine ⟨_, rfl, ?_⟩))
      go_meet
      case rel => exact ⟨_, (true), (by first | rfl | (simp; done) | (simp [*]; done)), H', ⟨by first | omega | exact Nat.le_refl _⟩, by repeat (first | exact Drawn0.refl _ | apply Drawn0.step)⟩
    · rw [if_neg c7] at H
      have c7b0 : (t109 != t110) = false := by simpa using c7
      (try (have c7b1 : decide (t109 = t110) = true := by simpa using c7))
      (try (have c7b2 : (t109 == t110) = true := by simpa using c7))
      clear c7
      (first | rw [c7b0] | (simp only [i64_w, i32_w]; rw [c7b0]) | skip)
      replace H := Option.bind_eq_some_iff.mp H
      obtain ⟨t111, A80, H⟩ := H
      replace H : ((croftref1_Log.f k t108 a1).bind fun t112 => (if t111 = t112 then ((bits_Count_uint8.f ((a0) % 256)).bind fun t113 => ((croftref1_Count.f k t108).bind fun t114 => (croftlaw1_powers_uint8.j0 k a1 ((a0) % 256) t108 (t113 != t114)))) else (croftlaw1_powers_uint8.j0 k a1 ((a0) % 256) t108 true))) = some r := H
      have A8 := Aside0.mk A80
      clear A80
      replace H := Option.bind_eq_some_iff.mp H
      obtain ⟨t112, A90, H⟩ := H
      replace H : (if t111 = t112 then ((bits_Count_uint8.f ((a0) % 256)).bind fun t113 => ((croftref1_Count.f k t108).bind fun t114 => (croftlaw1_powers_uint8.j0 k a1 ((a0) % 256) t108 (t113 != t114)))) else (croftlaw1_powers_uint8.j0 k a1 ((a0) % 256) t108 true)) = some r := H
      have A9 := Aside0.mk A90
      clear A90
      by_cases c10 : t111 = t112
      · rw [if_pos c10] at H
        have c10b0 : (t111 == t112) = true := beq_iff_eq.mpr c10
        have c10b1 : (t111 != t112) = false := bne_eq_false_iff_eq.mpr c10
        clear c10
        replace H := Option.bind_eq_some_iff.mp H
        obtain ⟨t113, A110, H⟩ := H
        replace H : ((croftref1_Count.f k t108).bind fun t114 => (croftlaw1_powers_uint8.j0 k a1 ((a0) % 256) t108 (t113 != t114))) = some r := H
        have A11 := Aside0.mk A110
        clear A110
        replace H := Option.bind_eq_some_iff.mp H
        obtain ⟨t114, A120, H⟩ := H
        replace H : (croftlaw1_powers_uint8.j0 k a1 ((a0) % 256) t108 (t113 != t114)) = some r := H
        have A12 := Aside0.mk A120
        clear A120
        have H' := Aside0.mk H
        clear H
        go_wp2_with (first | ((with_reducible refine gate_callee (f := 37) rfl ?_); refine goesL_ (some 17) rfl rfl Try.func37 (by kernel_rfl) rfl #[.int .u8 ((a0) % 256)] rfl (by (try simp only [List.map_toArray, List.map_cons, List.map_nil]); first | done | rfl | (simp only [List.length_drop, List.length_take]; rfl)) ?_; (with_reducible refine (bits_IsPower_uint8.calls ((a0) % 256) t109 _ A5.out).mono ?_); rintro e w' ⟨rfl, ⟨nd, rfl⟩⟩; refine ⟨_, rfl, ?_⟩) | ((with_reducible refine gate_callee (f := 68) rfl ?_); refine goesL_ (some 20) rfl rfl Try.func68 (by kernel_rfl) rfl #[.int .u64 t108, .int .i64 a1] rfl (by (try simp only [List.map_toArray, List.map_cons, List.map_nil]); first | done | rfl | (simp only [List.length_drop, List.length_take]; rfl)) ?_; (with_reducible refine (croftref1_IsPower.calls k t108 a1 t110 _ A6.out).mono ?_); rintro e w' ⟨rfl, ⟨nd, rfl⟩⟩; refine ⟨_, rfl, ?_⟩) | (go_at_call 40; (with_reducible refine (bits_Log_uint8.calls k ((a0) % 256) t111 _ A8.out).mono ?_); rintro e w' ⟨rfl, ⟨nd, rfl⟩⟩) | (go_at_call 69; (with_reducible refine (croftref1_Log.calls k t108 a1 t112 _ A9.out).mono ?_); rintro e w' ⟨rfl, ⟨nd, rfl⟩⟩) | (go_at_call 43; (with_reducible refine (bits_Count_uint8.calls ((a0) % 256) t113 _ A11.out).mono ?_); rintro e w' ⟨rfl, ⟨nd, rfl⟩⟩) | (go_at_call 70; (with_reducible refine (croftref1_Count.calls k t108 t114 _ A12.out).mono ?_); rintro e w' ⟨rfl, ⟨nd, rfl⟩⟩))
        go_meet
        case rel => exact ⟨_, ((t113 != t114)), (by first | rfl | (simp; done) | (simp [*]; done)), H', ⟨by first | omega | exact Nat.le_refl _⟩, by repeat (first | exact Drawn0.refl _ | apply Drawn0.step)⟩
      · rw [if_neg c10] at H
        have c10b0 : (t111 == t112) = false := beq_eq_false_iff_ne.mpr c10
        have c10b1 : (t111 != t112) = true := bne_iff_ne.mpr c10
        have H' := Aside0.mk H
        clear H
        go_wp2_with (first | ((with_reducible refine gate_callee (f := 37) rfl ?_); refine goesL_ (some 17) rfl rfl Try.func37 (by kernel_rfl) rfl #[.int .u8 ((a0) % 256)] rfl (by (try simp only [List.map_toArray, List.map_cons, List.map_nil]); first | done | rfl | (simp only [List.length_drop, List.length_take]; rfl)) ?_; (with_reducible refine (bits_IsPower_uint8.calls ((a0) % 256) t109 _ A5.out).mono ?_); rintro e w' ⟨rfl, ⟨nd, rfl⟩⟩; refine ⟨_, rfl, ?_⟩) | ((with_reducible refine gate_callee (f := 68) rfl ?_); refine goesL_ (some 20) rfl rfl Try.func68 (by kernel_rfl) rfl #[.int .u64 t108, .int .i64 a1] rfl (by (try simp only [List.map_toArray, List.map_cons, List.map_nil]); first | done | rfl | (simp only [List.length_drop, List.length_take]; rfl)) ?_; (with_reducible refine (croftref1_IsPower.calls k t108 a1 t110 _ A6.out).mono ?_); rintro e w' ⟨rfl, ⟨nd, rfl⟩⟩; refine ⟨_, rfl, ?_⟩) | (go_at_call 40; (with_reducible refine (bits_Log_uint8.calls k ((a0) % 256) t111 _ A8.out).mono ?_); rintro e w' ⟨rfl, ⟨nd, rfl⟩⟩) | (go_at_call 69; (with_reducible refine (croftref1_Log.calls k t108 a1 t112 _ A9.out).mono ?_); rintro e w' ⟨rfl, ⟨nd, rfl⟩⟩))
        go_meet
        case rel => exact ⟨_, (true), (by first | rfl | (simp; done) | (simp [*]; done)), H', ⟨by first | omega | exact Nat.le_refl _⟩, by repeat (first | exact Drawn0.refl _ | apply Drawn0.step)⟩
  case rest =>
    clear HC4
    try clear c1
    try clear c2
    try clear p2
    try clear c3
    try clear c5
    try clear c6
    try clear c7
    try clear c7b0
    try clear c7b1
    try clear c7b2
    try clear c10
    try clear c10b0
    try clear c10b1
    obtain ⟨kq, x36_3, rfl, HA, HJ3, ⟨mc3, rfl⟩⟩ := hcut
    cases kq with
    | zero => exact absurd HA.out (by simp [croftlaw1_powers_uint8.j0])
    | succ kj3 =>
      have H := HA.out
      clear HA
      simp only [croftlaw1_powers_uint8.j0] at H
      by_cases c13 : x36_3 = true
      · subst c13
        have H1 : (some false) = some r := by rw [if_pos rfl] at H; exact H
        clear H
        have H := H1
        clear H1
        obtain rfl := Option.some.inj H
        go_wp2
        go_ret
        exact ⟨by first | rfl | (simp; done) | (simp [*]; done), by repeat (first | exact Drawn0.refl _ | apply Drawn0.step)⟩
      · replace c13 := Bool.eq_false_iff.mpr c13
        subst c13
        have H1 : ((bits_Ceil_uint8.f kj3 ((a0) % 256)).bind fun bt115 => ((croftref1_Ceil.f kj3 t108 a1).bind fun bt117 => (if (IntKind.u64.wrap (bt115.1)) = bt117.1 then (some (bt115.2 == bt117.2)) else (some false)))) = some r := by rw [if_neg (show ¬ (false = true) by decide)] at H; exact H
        clear H
        have H := H1
        clear H1
        replace H := Option.bind_eq_some_iff.mp H
        obtain ⟨⟨t115, t116⟩, A140, H⟩ := H
        replace H : ((croftref1_Ceil.f kj3 t108 a1).bind fun bt117 => (if (IntKind.u64.wrap (t115)) = bt117.1 then (some (t116 == bt117.2)) else (some false))) = some r := H
        have A14 := Aside0.mk A140
        clear A140
        replace H := Option.bind_eq_some_iff.mp H
        obtain ⟨⟨t117, t118⟩, A150, H⟩ := H
        replace H : (if (IntKind.u64.wrap (t115)) = t117 then (some (t116 == t118)) else (some false)) = some r := H
        have A15 := Aside0.mk A150
        clear A150
        by_cases c16 : (IntKind.u64.wrap (t115)) = t117
        · rw [if_pos c16] at H
          have c16b0 : ((IntKind.u64.wrap (t115)) == t117) = true := beq_iff_eq.mpr c16
          have c16b1 : ((IntKind.u64.wrap (t115)) != t117) = false := bne_eq_false_iff_eq.mpr c16
          clear c16
          obtain rfl := Option.some.inj H
          go_wp2_with (first | ((with_reducible refine gate_callee (f := 46) rfl ?_); refine goesL_ (some 39) rfl rfl Try.func46 (by kernel_rfl) rfl #[.int .u8 ((a0) % 256)] rfl (by (try simp only [List.map_toArray, List.map_cons, List.map_nil]); first | done | rfl | (simp only [List.length_drop, List.length_take]; rfl)) ?_; (with_reducible refine (bits_Ceil_uint8.calls kj3 ((a0) % 256) t115 t116 _ A14.out).mono ?_); rintro e w' ⟨rfl, ⟨nd, rfl⟩⟩; refine ⟨_, rfl, ?_⟩) | ((with_reducible refine gate_callee (f := 71) rfl ?_); refine goesL_ (some 45) rfl rfl Try.func71 (by kernel_rfl) rfl #[.int .u64 t108, .int .i64 a1] rfl (by (try simp only [List.map_toArray, List.map_cons, List.map_nil]); first | done | rfl | (simp only [List.length_drop, List.length_take]; rfl)) ?_; (with_reducible refine (croftref1_Ceil.calls kj3 t108 a1 t117 t118 _ A15.out).mono ?_); rintro e w' ⟨rfl, ⟨nd, rfl⟩⟩; refine ⟨_, rfl, ?_⟩))
          go_ret
          exact ⟨by first | rfl | (simp; done) | (simp [*]; done), by repeat (first | exact Drawn0.refl _ | apply Drawn0.step)⟩
        · rw [if_neg c16] at H
          have c16b0 : ((IntKind.u64.wrap (t115)) == t117) = false := beq_eq_false_iff_ne.mpr c16
          have c16b1 : ((IntKind.u64.wrap (t115)) != t117) = true := bne_iff_ne.mpr c16
          obtain rfl := Option.some.inj H
          go_wp2_with (first | ((with_reducible refine gate_callee (f := 46) rfl ?_); refine goesL_ (some 39) rfl rfl Try.func46 (by kernel_rfl) rfl #[.int .u8 ((a0) % 256)] rfl (by (try simp only [List.map_toArray, List.map_cons, List.map_nil]); first | done | rfl | (simp only [List.length_drop, List.length_take]; rfl)) ?_; (with_reducible refine (bits_Ceil_uint8.calls kj3 ((a0) % 256) t115 t116 _ A14.out).mono ?_); rintro e w' ⟨rfl, ⟨nd, rfl⟩⟩; refine ⟨_, rfl, ?_⟩) | ((with_reducible refine gate_callee (f := 71) rfl ?_); refine goesL_ (some 45) rfl rfl Try.func71 (by kernel_rfl) rfl #[.int .u64 t108, .int .i64 a1] rfl (by (try simp only [List.map_toArray, List.map_cons, List.map_nil]); first | done | rfl | (simp only [List.length_drop, List.length_take]; rfl)) ?_; (with_reducible refine (croftref1_Ceil.calls kj3 t108 a1 t117 t118 _ A15.out).mono ?_); rintro e w' ⟨rfl, ⟨nd, rfl⟩⟩; refine ⟨_, rfl, ?_⟩))
          go_ret
          exact ⟨by first | rfl | (simp; done) | (simp [*]; done), by repeat (first | exact Drawn0.refl _ | apply Drawn0.step)⟩

/-! ### bits_Log_uint16: function 41 -/
def bits_Log_uint16.f (k : Nat) (a0 : Int) : Option (Int) := (bits_Len64.f k (IntKind.u64.wrap (a0))).bind fun t119 => (some (wrap64 (t119 - 1)))
theorem bits_Log_uint16.mono : ∀ a0 k, LeO (bits_Log_uint16.f k a0) (bits_Log_uint16.f (k + 1) a0) := by
  intro a0 k
  unfold bits_Log_uint16.f
  repeat' first
      | (with_reducible exact bits_Len64.mono _ _)
      | (with_reducible exact LeO.refl _)
      | (with_reducible exact LeO.none _)
      | (with_reducible refine LeO.ite ?_ ?_)
      | (with_reducible refine LeO.bind ?_ (fun _ => ?_))
      | exact bits_Len64.mono _ _
      | exact LeO.none _
      | refine LeO.ite ?_ ?_
      | refine LeO.bind ?_ (fun _ => ?_)
set_option maxHeartbeats 8000000 in
set_option maxRecDepth 100000 in
theorem bits_Log_uint16.calls (k : Nat) (a0 : Int) (r : Int) (w : World) (h : bits_Log_uint16.f k a0 = some r) :
    Calls Try.prog 41 #[.int .u16 a0] w fun e w' => e = .returned (.int .i64 r) ∧ Drawn0 w w' := by
  have H : ((bits_Len64.f k (IntKind.u64.wrap (a0))).bind fun t119 => (some (wrap64 (t119 - 1)))) = some r := h
  clear h
  replace H := Option.bind_eq_some_iff.mp H
  obtain ⟨t119, A20, H⟩ := H
  replace H : (some (wrap64 (t119 - 1))) = some r := H
  have A2 := Aside0.mk A20
  clear A20
  obtain rfl := Option.some.inj H
  go_enter Try.func41, Try.ntmps41
  go_wp2_with (first | ((with_reducible refine gate_callee (f := 82) rfl ?_); refine goesL_ (some 5) rfl rfl Try.func82 (by kernel_rfl) rfl #[.int .u64 (IntKind.u64.wrap (a0))] rfl (by (try simp only [List.map_toArray, List.map_cons, List.map_nil]); first | done | rfl | (simp only [List.length_drop, List.length_take]; rfl)) ?_; (with_reducible refine (bits_Len64.calls k (IntKind.u64.wrap (a0)) t119 _ A2.out).mono ?_); rintro e w' ⟨rfl, ⟨nd, rfl⟩⟩; refine ⟨_, rfl, ?_⟩))
  go_ret
  exact ⟨by first | rfl | (simp; done) | (simp [*]; done), by repeat (first | exact Drawn0.refl _ | apply Drawn0.step)⟩

/-! ### bits_Count_uint16: function 44 -/
def bits_Count_uint16.f (a0 : Int) : Option (Int) := (bits_OnesCount64.f (IntKind.u64.wrap (a0))).bind fun t120 => (some t120)
set_option maxHeartbeats 8000000 in
set_option maxRecDepth 100000 in
theorem bits_Count_uint16.calls (a0 : Int) (r : Int) (w : World) (h : bits_Count_uint16.f a0 = some r) :
    Calls Try.prog 44 #[.int .u16 a0] w fun e w' => e = .returned (.int .i64 r) ∧ Drawn0 w w' := by
  have H : ((bits_OnesCount64.f (IntKind.u64.wrap (a0))).bind fun t120 => (some t120)) = some r := h
  clear h
  replace H := Option.bind_eq_some_iff.mp H
  obtain ⟨t120, A20, H⟩ := H
  replace H : (some t120) = some r := H
  have A2 := Aside0.mk A20
  clear A20
  obtain rfl := Option.some.inj H
  go_enter Try.func44, Try.ntmps44
  go_wp2_with (first | ((with_reducible refine gate_callee (f := 81) rfl ?_); refine goesL_ (some 5) rfl rfl Try.func81 (by kernel_rfl) rfl #[.int .u64 (IntKind.u64.wrap (a0))] rfl (by (try simp only [List.map_toArray, List.map_cons, List.map_nil]); first | done | rfl | (simp only [List.length_drop, List.length_take]; rfl)) ?_; (with_reducible refine (bits_OnesCount64.calls (IntKind.u64.wrap (a0)) t120 _ A2.out).mono ?_); rintro e w' ⟨rfl, ⟨nd, rfl⟩⟩; refine ⟨_, rfl, ?_⟩))
  go_ret
  exact ⟨by first | rfl | (simp; done) | (simp [*]; done), by repeat (first | exact Drawn0.refl _ | apply Drawn0.step)⟩

/-! ### bits_Ceil_uint16: function 72 -/
def bits_Ceil_uint16.f (k : Nat) (a0 : Int) : Option (Int × Bool) := if a0 ≤ 1 then (some (1, true)) else ((bits_Log_uint16.f k (IntKind.u16.wrap (a0 - 1))).bind fun t121 => (if 0 ≤ (wrap64 (t121 + 1)) then (some (shl .u16 1 (wrap64 (t121 + 1)), ((shl .u16 1 (wrap64 (t121 + 1))) != 0))) else (none)))
theorem bits_Ceil_uint16.mono : ∀ a0 k, LeO (bits_Ceil_uint16.f k a0) (bits_Ceil_uint16.f (k + 1) a0) := by
  intro a0 k
  unfold bits_Ceil_uint16.f
  repeat' first
      | (with_reducible exact bits_Log_uint16.mono _ _)
      | (with_reducible exact LeO.refl _)
      | (with_reducible exact LeO.none _)
      | (with_reducible refine LeO.ite ?_ ?_)
      | (with_reducible refine LeO.bind ?_ (fun _ => ?_))
      | exact bits_Log_uint16.mono _ _
      | exact LeO.none _
      | refine LeO.ite ?_ ?_
      | refine LeO.bind ?_ (fun _ => ?_)
set_option maxHeartbeats 8000000 in
set_option maxRecDepth 100000 in
theorem bits_Ceil_uint16.calls (k : Nat) (a0 : Int) (r1 : Int) (r2 : Bool) (w : World) (h : bits_Ceil_uint16.f k a0 = some (r1, r2)) :
    Calls Try.prog 72 #[.int .u16 a0] w fun e w' => e = .returned (.tuple #[.int .u16 r1, .bool r2]) ∧ Drawn0 w w' := by
  have H : (if a0 ≤ 1 then (some (1, true)) else ((bits_Log_uint16.f k (IntKind.u16.wrap (a0 - 1))).bind fun t121 => (if 0 ≤ (wrap64 (t121 + 1)) then (some (shl .u16 1 (wrap64 (t121 + 1)), ((shl .u16 1 (wrap64 (t121 + 1))) != 0))) else (none)))) = some (r1, r2) := h
  clear h
  by_cases c2 : a0 ≤ 1
  · rw [if_pos c2] at H
    have c2b0 : decide (a0 ≤ 1) = true := decide_eq_true c2
    clear c2
    simp only [Option.some.injEq, Prod.mk.injEq] at H
    obtain ⟨rfl, rfl⟩ := H
    go_enter Try.func72, Try.ntmps72
    go_wp2
    go_ret2
    exact ⟨by first | rfl | (simp; done) | (simp [*]; done), by repeat (first | exact Drawn0.refl _ | apply Drawn0.step)⟩
  · rw [if_neg c2] at H
    have c2b0 : decide (a0 ≤ 1) = false := decide_eq_false c2
    clear c2
    replace H := Option.bind_eq_some_iff.mp H
    obtain ⟨t121, A30, H⟩ := H
    replace H : (if 0 ≤ (wrap64 (t121 + 1)) then (some (shl .u16 1 (wrap64 (t121 + 1)), ((shl .u16 1 (wrap64 (t121 + 1))) != 0))) else (none)) = some (r1, r2) := H
    have A3 := Aside0.mk A30
    clear A30
    obtain ⟨ji4, hji4⟩ : ∃ j_ : Int, (wrap64 (t121 + 1)) = j_ := ⟨_, rfl⟩
    replace H : (if 0 ≤ (ji4) then (some (shl .u16 1 (ji4), ((shl .u16 1 (ji4)) != 0))) else (none)) = some (r1, r2) := by first | (rw [hji4] at H; exact H) | (simp only [hji4] at H ⊢; exact H)
    (try rw [hji4] at A3)
    have hji4w : (IntKind.i64.wrap (t121 + 1)) = ji4 := (i64_w _).trans hji4
    by_cases c5 : 0 ≤ (ji4)
    · rw [if_pos c5] at H
      have c5b0 := eq_true c5
      have c5b1 : decide (0 ≤ (ji4)) = true := decide_eq_true c5
      clear c5
      obtain ⟨ji6, hji6⟩ : ∃ j_ : Int, (shl .u16 1 (ji4)) = j_ := ⟨_, rfl⟩
      replace H : (some (ji6, ((ji6) != 0))) = some (r1, r2) := by first | (rw [hji6] at H; exact H) | (simp only [hji6] at H ⊢; exact H)
      (try rw [hji6] at A3)
      have hji6_ : (IntKind.u16.wrap (1 * 2 ^ min (ji4).toNat 16)) = ji6 := hji6
      have hji6z : (ji4) ≤ 16 → (IntKind.u16.wrap (1 * 2 ^ (ji4).toNat)) = ji6 := shl_small hji6
      have hji6u : (IntKind.u16.wrap (2 ^ min (ji4).toNat 16)) = ji6 := by have h_ := hji6_; rw [Int.one_mul] at h_; exact h_
      have hji6v : (ji4) ≤ 16 → (IntKind.u16.wrap (2 ^ (ji4).toNat)) = ji6 := fun hle_ => by have h_ := hji6z hle_; rw [Int.one_mul] at h_; exact h_
      simp only [Option.some.injEq, Prod.mk.injEq] at H
      obtain ⟨rfl, rfl⟩ := H
      go_enter Try.func72, Try.ntmps72
      go_wp2_with (first | ((with_reducible refine gate_callee (f := 41) rfl ?_); refine goesL_ (some 10) rfl rfl Try.func41 (by kernel_rfl) rfl #[.int .u16 (IntKind.u16.wrap (a0 - 1))] rfl (by (try simp only [List.map_toArray, List.map_cons, List.map_nil]); first | done | rfl | (simp only [List.length_drop, List.length_take]; rfl)) ?_; (with_reducible refine (bits_Log_uint16.calls k (IntKind.u16.wrap (a0 - 1)) t121 _ A3.out).mono ?_); rintro e w' ⟨rfl, ⟨nd, rfl⟩⟩; refine ⟨_, rfl, ?_⟩))
      go_ret2
      exact ⟨by first | rfl | (simp; done) | (simp only [← hji4, ← hji6] <;> (first | rfl | simp)) | (simp [*]; done), by repeat (first | exact Drawn0.refl _ | apply Drawn0.step)⟩
    · rw [if_neg c5] at H
      exact absurd H (by simp)

/-! ### croftlaw1_powers_uint16: function 26 -/
def croftlaw1_powers_uint16.j0 : Nat → Int → Int → Int → Bool → Option (Bool)
  | 0, _, _, _, _ => none
  | k + 1, x1, x5, x6, x36 => if x36 = true then (some false) else ((bits_Ceil_uint16.f k x5).bind fun bt129 => ((croftref1_Ceil.f k x6 x1).bind fun bt131 => (if (IntKind.u64.wrap (bt129.1)) = bt131.1 then (some (bt129.2 == bt131.2)) else (some false))))
def croftlaw1_powers_uint16.f (k : Nat) (a0 : Int) (a1 : Int) : Option (Bool) := (croftref1_Cut.f a0 a1).bind fun t122 => ((bits_IsPower_uint16.f (IntKind.u16.wrap (a0))).bind fun t123 => ((croftref1_IsPower.f k t122 a1).bind fun t124 => (if (t123 != t124) = true then (croftlaw1_powers_uint16.j0 k a1 (IntKind.u16.wrap (a0)) t122 true) else ((bits_Log_uint16.f k (IntKind.u16.wrap (a0))).bind fun t125 => ((croftref1_Log.f k t122 a1).bind fun t126 => (if t125 = t126 then ((bits_Count_uint16.f (IntKind.u16.wrap (a0))).bind fun t127 => ((croftref1_Count.f k t122).bind fun t128 => (croftlaw1_powers_uint16.j0 k a1 (IntKind.u16.wrap (a0)) t122 (t127 != t128)))) else (croftlaw1_powers_uint16.j0 k a1 (IntKind.u16.wrap (a0)) t122 true)))))))
theorem croftlaw1_powers_uint16.mono_l : ∀ k, (∀ y0 y1 y2 y3, LeO (croftlaw1_powers_uint16.j0 k y0 y1 y2 y3) (croftlaw1_powers_uint16.j0 (k + 1) y0 y1 y2 y3))
  | 0 => fun _ _ _ _ r h => by simp [croftlaw1_powers_uint16.j0] at h
  | k + 1 => by
    have ih0 := croftlaw1_powers_uint16.mono_l k
    · intro y0 y1 y2 y3
      unfold croftlaw1_powers_uint16.j0
      repeat' first
      | (with_reducible exact ih0 _ _ _ _)
      | (with_reducible exact bits_Ceil_uint16.mono _ _)
      | (with_reducible exact bits_Log_uint16.mono _ _)
      | (with_reducible exact croftref1_Ceil.mono _ _ _)
      | (with_reducible exact croftref1_Count.mono _ _)
      | (with_reducible exact croftref1_IsPower.mono _ _ _)
      | (with_reducible exact croftref1_Log.mono _ _ _)
      | (with_reducible exact LeO.refl _)
      | (with_reducible exact LeO.none _)
      | (with_reducible refine LeO.ite ?_ ?_)
      | (with_reducible refine LeO.bind ?_ (fun _ => ?_))
      | exact ih0 _ _ _ _
      | exact bits_Ceil_uint16.mono _ _
      | exact bits_Log_uint16.mono _ _
      | exact croftref1_Ceil.mono _ _ _
      | exact croftref1_Count.mono _ _
      | exact croftref1_IsPower.mono _ _ _
      | exact croftref1_Log.mono _ _ _
      | exact LeO.none _
      | refine LeO.ite ?_ ?_
      | refine LeO.bind ?_ (fun _ => ?_)
theorem croftlaw1_powers_uint16.mono : ∀ a0 a1 k, LeO (croftlaw1_powers_uint16.f k a0 a1) (croftlaw1_powers_uint16.f (k + 1) a0 a1) := by
  intro a0 a1 k
  have ih0 := croftlaw1_powers_uint16.mono_l k
  unfold croftlaw1_powers_uint16.f
  repeat' first
      | (with_reducible exact ih0 _ _ _ _)
      | (with_reducible exact bits_Ceil_uint16.mono _ _)
      | (with_reducible exact bits_Log_uint16.mono _ _)
      | (with_reducible exact croftref1_Ceil.mono _ _ _)
      | (with_reducible exact croftref1_Count.mono _ _)
      | (with_reducible exact croftref1_IsPower.mono _ _ _)
      | (with_reducible exact croftref1_Log.mono _ _ _)
      | (with_reducible exact LeO.refl _)
      | (with_reducible exact LeO.none _)
      | (with_reducible refine LeO.ite ?_ ?_)
      | (with_reducible refine LeO.bind ?_ (fun _ => ?_))
      | exact ih0 _ _ _ _
      | exact bits_Ceil_uint16.mono _ _
      | exact bits_Log_uint16.mono _ _
      | exact croftref1_Ceil.mono _ _ _
      | exact croftref1_Count.mono _ _
      | exact croftref1_IsPower.mono _ _ _
      | exact croftref1_Log.mono _ _ _
      | exact LeO.none _
      | refine LeO.ite ?_ ?_
      | refine LeO.bind ?_ (fun _ => ?_)
set_option maxHeartbeats 8000000 in
set_option maxRecDepth 100000 in
theorem croftlaw1_powers_uint16.calls (k : Nat) (a0 : Int) (a1 : Int) (r : Bool) (w : World) (h : croftlaw1_powers_uint16.f k a0 a1 = some r) :
    Calls Try.prog 26 #[.int .u64 a0, .int .i64 a1] w fun e w' => e = .returned (.bool r) ∧ Drawn0 w w' := by
  have H : ((croftref1_Cut.f a0 a1).bind fun t122 => ((bits_IsPower_uint16.f (IntKind.u16.wrap (a0))).bind fun t123 => ((croftref1_IsPower.f k t122 a1).bind fun t124 => (if (t123 != t124) = true then (croftlaw1_powers_uint16.j0 k a1 (IntKind.u16.wrap (a0)) t122 true) else ((bits_Log_uint16.f k (IntKind.u16.wrap (a0))).bind fun t125 => ((croftref1_Log.f k t122 a1).bind fun t126 => (if t125 = t126 then ((bits_Count_uint16.f (IntKind.u16.wrap (a0))).bind fun t127 => ((croftref1_Count.f k t122).bind fun t128 => (croftlaw1_powers_uint16.j0 k a1 (IntKind.u16.wrap (a0)) t122 (t127 != t128)))) else (croftlaw1_powers_uint16.j0 k a1 (IntKind.u16.wrap (a0)) t122 true)))))))) = some r := h
  clear h
  replace H := Option.bind_eq_some_iff.mp H
  obtain ⟨t122, A30, H⟩ := H
  replace H : ((bits_IsPower_uint16.f (IntKind.u16.wrap (a0))).bind fun t123 => ((croftref1_IsPower.f k t122 a1).bind fun t124 => (if (t123 != t124) = true then (croftlaw1_powers_uint16.j0 k a1 (IntKind.u16.wrap (a0)) t122 true) else ((bits_Log_uint16.f k (IntKind.u16.wrap (a0))).bind fun t125 => ((croftref1_Log.f k t122 a1).bind fun t126 => (if t125 = t126 then ((bits_Count_uint16.f (IntKind.u16.wrap (a0))).bind fun t127 => ((croftref1_Count.f k t122).bind fun t128 => (croftlaw1_powers_uint16.j0 k a1 (IntKind.u16.wrap (a0)) t122 (t127 != t128)))) else (croftlaw1_powers_uint16.j0 k a1 (IntKind.u16.wrap (a0)) t122 true))))))) = some r := H
  have A3 := Aside0.mk A30
  clear A30
  have HC4 := Aside0.mk H
  clear H
  go_enter Try.func26, Try.ntmps26
  go_upto_region 3 with (first | ((with_reducible refine gate_callee (f := 52) rfl ?_); refine goesL_ (some 15) rfl rfl Try.func52 (by kernel_rfl) rfl #[.int .u64 a0, .int .i64 a1] rfl (by (try simp only [List.map_toArray, List.map_cons, List.map_nil]); first | done | rfl | (simp only [List.length_drop, List.length_take]; rfl)) ?_; (with_reducible refine (croftref1_Cut.calls a0 a1 t122 _ A3.out).mono ?_); rintro e w' ⟨rfl, ⟨nd, rfl⟩⟩; refine ⟨_, rfl, ?_⟩))
  (try simp only [Act.put, List.setIfInBounds_toArray, List.set_cons_zero, List.set_cons_succ])
  go_cut [36] (fun v36 wc => ∃ (kq : Nat) (x36_3 : Bool), v36 = .bool x36_3 ∧ Aside0 (croftlaw1_powers_uint16.j0 kq a1 (IntKind.u16.wrap (a0)) t122 x36_3 = some r) ∧ Aside0 (kq ≤ k) ∧ Drawn0 w wc)
  case first =>
    have H := HC4.out
    clear HC4
    replace H := Option.bind_eq_some_iff.mp H
    obtain ⟨t123, A50, H⟩ := H
    replace H : ((croftref1_IsPower.f k t122 a1).bind fun t124 => (if (t123 != t124) = true then (croftlaw1_powers_uint16.j0 k a1 (IntKind.u16.wrap (a0)) t122 true) else ((bits_Log_uint16.f k (IntKind.u16.wrap (a0))).bind fun t125 => ((croftref1_Log.f k t122 a1).bind fun t126 => (if t125 = t126 then ((bits_Count_uint16.f (IntKind.u16.wrap (a0))).bind fun t127 => ((croftref1_Count.f k t122).bind fun t128 => (croftlaw1_powers_uint16.j0 k a1 (IntKind.u16.wrap (a0)) t122 (t127 != t128)))) else (croftlaw1_powers_uint16.j0 k a1 (IntKind.u16.wrap (a0)) t122 true)))))) = some r := H
    have A5 := Aside0.mk A50
    clear A50
    replace H := Option.bind_eq_some_iff.mp H
    obtain ⟨t124, A60, H⟩ := H
    replace H : (if (t123 != t124) = true then (croftlaw1_powers_uint16.j0 k a1 (IntKind.u16.wrap (a0)) t122 true) else ((bits_Log_uint16.f k (IntKind.u16.wrap (a0))).bind fun t125 => ((croftref1_Log.f k t122 a1).bind fun t126 => (if t125 = t126 then ((bits_Count_uint16.f (IntKind.u16.wrap (a0))).bind fun t127 => ((croftref1_Count.f k t122).bind fun t128 => (croftlaw1_powers_uint16.j0 k a1 (IntKind.u16.wrap (a0)) t122 (t127 != t128)))) else (croftlaw1_powers_uint16.j0 k a1 (IntKind.u16.wrap (a0)) t122 true))))) = some r := H
    have A6 := Aside0.mk A60
    clear A60
    by_cases c7 : (t123 != t124) = true
    · rw [if_pos c7] at H
      have c7b0 : (t123 != t124) = true := c7
      (try (have c7b1 : decide (t123 = t124) = false := by simpa using c7))
      (try (have c7b2 : (t123 == t124) = false := by simpa using c7))
      (try (have c7b3 : ¬ (t123 = t124) := by simpa using c7))
      clear c7
      (first | rw [c7b0] | (simp only [i64_w, i32_w]; rw [c7b0]) | skip)
      have H' := Aside0.mk H
      clear H
      go_wp2_with (first | ((with_reducible refine gate_callee (f := 38) rfl ?_); refine goesL_ (some 17) rfl rfl Try.func38 (by kernel_rfl) rfl #[.int .u16 (IntKind.u16.wrap (a0))] rfl (by (try simp only [List.map_toArray, List.map_cons, List.map_nil]); first | done | rfl | (simp only [List.length_drop, List.length_take]; rfl)) ?_; (with_reducible refine (bits_IsPower_uint16.calls (IntKind.u16.wrap (a0)) t123 _ A5.out).mono ?_); rintro e w' ⟨rfl, ⟨nd, rfl⟩⟩; refine ⟨_, rfl, ?_⟩) | ((with_reducible refine gate_callee (f := 68) rfl ?_); refine goesL_ (some 20) rfl rfl Try.func68 (by kernel_rfl) rfl #[.int .u64 t122, .int .i64 a1] rfl (by (try simp only [List.map_toArray, List.map_cons, List.map_nil]); first | done | rfl | (simp only [List.length_drop, List.length_take]; rfl)) ?_; (with_reducible refine (croftref1_IsPower.calls k t122 a1 t124 _ A6.out).mono ?_); rintro e w' ⟨rfl, ⟨nd, rfl⟩⟩; refine ⟨_, rfl, ?_⟩))
      go_meet
      case rel => exact ⟨_, (true), (by first | rfl | (simp; done) | (simp [*]; done)), H', ⟨by first | omega | exact Nat.le_refl _⟩, by repeat (first | exact Drawn0.refl _ | apply Drawn0.step)⟩
    · rw [if_neg c7] at H
      have c7b0 : (t123 != t124) = false := by simpa using c7
      (try (have c7b1 : decide (t123 = t124) = true := by simpa using c7))
      (try (have c7b2 : (t123 == t124) = true := by simpa using c7))
      clear c7
      (first | rw [c7b0] | (simp only [i64_w, i32_w]; rw [c7b0]) | skip)
      replace H := Option.bind_eq_some_iff.mp H
      obtain ⟨t125, A80, H⟩ := H
      replace H : ((croftref1_Log.f k t122 a1).bind fun t126 => (if t125 = t126 then ((bits_Count_uint16.f (IntKind.u16.wrap (a0))).bind fun t127 => ((croftref1_Count.f k t122).bind fun t128 => (croftlaw1_powers_uint16.j0 k a1 (IntKind.u16.wrap (a0)) t122 (t127 != t128)))) else (croftlaw1_powers_uint16.j0 k a1 (IntKind.u16.wrap (a0)) t122 true))) = some r := H
      have A8 := Aside0.mk A80
      clear A80
      replace H := Option.bind_eq_some_iff.mp H
      obtain ⟨t126, A90, H⟩ := H
      replace H : (if t125 = t126 then ((bits_Count_uint16.f (IntKind.u16.wrap (a0))).bind fun t127 => ((croftref1_Count.f k t122).bind fun t128 => (croftlaw1_powers_uint16.j0 k a1 (IntKind.u16.wrap (a0)) t122 (t127 != t128)))) else (croftlaw1_powers_uint16.j0 k a1 (IntKind.u16.wrap (a0)) t122 true)) = some r := H
      have A9 := Aside0.mk A90
      clear A90
      by_cases c10 : t125 = t126
      · rw [if_pos c10] at H
        have c10b0 : (t125 == t126) = true := beq_iff_eq.mpr c10
        have c10b1 : (t125 != t126) = false := bne_eq_false_iff_eq.mpr c10
        clear c10
        replace H := Option.bind_eq_some_iff.mp H
        obtain ⟨t127, A110, H⟩ := H
        replace H : ((croftref1_Count.f k t122).bind fun t128 => (croftlaw1_powers_uint16.j0 k a1 (IntKind.u16.wrap (a0)) t122 (t127 != t128))) = some r := H
        have A11 := Aside0.mk A110
        clear A110
        replace H := Option.bind_eq_some_iff.mp H
        obtain ⟨t128, A120, H⟩ := H
        replace H : (croftlaw1_powers_uint16.j0 k a1 (IntKind.u16.wrap (a0)) t122 (t127 != t128)) = some r := H
        have A12 := Aside0.mk A120
        clear A120
        have H' := Aside0.mk H
        clear H
        go_wp2_with (first | ((with_reducible refine gate_callee (f := 38) rfl ?_); refine goesL_ (some 17) rfl rfl Try.func38 (by kernel_rfl) rfl #[.int .u16 (IntKind.u16.wrap (a0))] rfl (by (try simp only [List.map_toArray, List.map_cons, List.map_nil]); first | done | rfl | (simp only [List.length_drop, List.length_take]; rfl)) ?_; (with_reducible refine (bits_IsPower_uint16.calls (IntKind.u16.wrap (a0)) t123 _ A5.out).mono ?_); rintro e w' ⟨rfl, ⟨nd, rfl⟩⟩; refine ⟨_, rfl, ?_⟩) | ((with_reducible refine gate_callee (f := 68) rfl ?_); refine goesL_ (some 20) rfl rfl Try.func68 (by kernel_rfl) rfl #[.int .u64 t122, .int .i64 a1] rfl (by (try simp only [List.map_toArray, List.map_cons, List.map_nil]); first | done | rfl | (simp only [List.length_drop, List.length_take]; rfl)) ?_; (with_reducible refine (croftref1_IsPower.calls k t122 a1 t124 _ A6.out).mono ?_); rintro e w' ⟨rfl, ⟨nd, rfl⟩⟩; refine ⟨_, rfl, ?_⟩) | (go_at_call 41; (with_reducible refine (bits_Log_uint16.calls k (IntKind.u16.wrap (a0)) t125 _ A8.out).mono ?_); rintro e w' ⟨rfl, ⟨nd, rfl⟩⟩) | (go_at_call 69; (with_reducible refine (croftref1_Log.calls k t122 a1 t126 _ A9.out).mono ?_); rintro e w' ⟨rfl, ⟨nd, rfl⟩⟩) | (go_at_call 44; (with_reducible refine (bits_Count_uint16.calls (IntKind.u16.wrap (a0)) t127 _ A11.out).mono ?_); rintro e w' ⟨rfl, ⟨nd, rfl⟩⟩) | (go_at_call 70; (with_reducible refine (croftref1_Count.calls k t122 t128 _ A12.out).mono ?_); rintro e w' ⟨rfl, ⟨nd, rfl⟩⟩))
        go_meet
        case rel => exact ⟨_, ((t127 != t128)), (by first | rfl | (simp; done) | (simp [*]; done)), H', ⟨by first | omega | exact Nat.le_refl _⟩, by repeat (first | exact Drawn0.refl _ | apply Drawn0.step)⟩
      · rw [if_neg c10] at H
        have c10b0 : (t125 == t126) = false := beq_eq_false_iff_ne.mpr c10
        have c10b1 : (t125 != t126) = true := bne_iff_ne.mpr c10
        have H' := Aside0.mk H
        clear H
        go_wp2_with (first | ((with_reducible refine gate_callee (f := 38) rfl ?_); refine goesL_ (some 17) rfl rfl Try.func38 (by kernel_rfl) rfl #[.int .u16 (IntKind.u16.wrap (a0))] rfl (by (try simp only [List.map_toArray, List.map_cons, List.map_nil]); first | done | rfl | (simp only [List.length_drop, List.length_take]; rfl)) ?_; (with_reducible refine (bits_IsPower_uint16.calls (IntKind.u16.wrap (a0)) t123 _ A5.out).mono ?_); rintro e w' ⟨rfl, ⟨nd, rfl⟩⟩; refine ⟨_, rfl, ?_⟩) | ((with_reducible refine gate_callee (f := 68) rfl ?_); refine goesL_ (some 20) rfl rfl Try.func68 (by kernel_rfl) rfl #[.int .u64 t122, .int .i64 a1] rfl (by (try simp only [List.map_toArray, List.map_cons, List.map_nil]); first | done | rfl | (simp only [List.length_drop, List.length_take]; rfl)) ?_; (with_reducible refine (croftref1_IsPower.calls k t122 a1 t124 _ A6.out).mono ?_); rintro e w' ⟨rfl, ⟨nd, rfl⟩⟩; refine ⟨_, rfl, ?_⟩) | (go_at_call 41; (with_reducible refine (bits_Log_uint16.calls k (IntKind.u16.wrap (a0)) t125 _ A8.out).mono ?_); rintro e w' ⟨rfl, ⟨nd, rfl⟩⟩) | (go_at_call 69; (with_reducible refine (croftref1_Log.calls k t122 a1 t126 _ A9.out).mono ?_); rintro e w' ⟨rfl, ⟨nd, rfl⟩⟩))
        go_meet
        case rel => exact ⟨_, (true), (by first | rfl | (simp; done) | (simp [*]; done)), H', ⟨by first | omega | exact Nat.le_refl _⟩, by repeat (first | exact Drawn0.refl _ | apply Drawn0.step)⟩
  case rest =>
    clear HC4
    try clear c1
    try clear c2
    try clear p2
    try clear c3
    try clear c5
    try clear c6
    try clear c7
    try clear c7b0
    try clear c7b1
    try clear c7b2
    try clear c10
    try clear c10b0
    try clear c10b1
    obtain ⟨kq, x36_3, rfl, HA, HJ3, ⟨mc3, rfl⟩⟩ := hcut
    cases kq with
    | zero => exact absurd HA.out (by simp [croftlaw1_powers_uint16.j0])
    | succ kj3 =>
      have H := HA.out
      clear HA
      simp only [croftlaw1_powers_uint16.j0] at H
      by_cases c13 : x36_3 = true
      · subst c13
        have H1 : (some false) = some r := by rw [if_pos rfl] at H; exact H
        clear H
        have H := H1
        clear H1
        obtain rfl := Option.some.inj H
        go_wp2
        go_ret
        exact ⟨by first | rfl | (simp; done) | (simp [*]; done), by repeat (first | exact Drawn0.refl _ | apply Drawn0.step)⟩
      · replace c13 := Bool.eq_false_iff.mpr c13
        subst c13
        have H1 : ((bits_Ceil_uint16.f kj3 (IntKind.u16.wrap (a0))).bind fun bt129 => ((croftref1_Ceil.f kj3 t122 a1).bind fun bt131 => (if (IntKind.u64.wrap (bt129.1)) = bt131.1 then (some (bt129.2 == bt131.2)) else (some false)))) = some r := by rw [if_neg (show ¬ (false = true) by decide)] at H; exact H
        clear H
        have H := H1
        clear H1
        replace H := Option.bind_eq_some_iff.mp H
        obtain ⟨⟨t129, t130⟩, A140, H⟩ := H
        replace H : ((croftref1_Ceil.f kj3 t122 a1).bind fun bt131 => (if (IntKind.u64.wrap (t129)) = bt131.1 then (some (t130 == bt131.2)) else (some false))) = some r := H
        have A14 := Aside0.mk A140
        clear A140
        replace H := Option.bind_eq_some_iff.mp H
        obtain ⟨⟨t131, t132⟩, A150, H⟩ := H
        replace H : (if (IntKind.u64.wrap (t129)) = t131 then (some (t130 == t132)) else (some false)) = some r := H
        have A15 := Aside0.mk A150
        clear A150
        by_cases c16 : (IntKind.u64.wrap (t129)) = t131
        · rw [if_pos c16] at H
          have c16b0 : ((IntKind.u64.wrap (t129)) == t131) = true := beq_iff_eq.mpr c16
          have c16b1 : ((IntKind.u64.wrap (t129)) != t131) = false := bne_eq_false_iff_eq.mpr c16
          clear c16
          obtain rfl := Option.some.inj H
          go_wp2_with (first | ((with_reducible refine gate_callee (f := 72) rfl ?_); refine goesL_ (some 39) rfl rfl Try.func72 (by kernel_rfl) rfl #[.int .u16 (IntKind.u16.wrap (a0))] rfl (by (try simp only [List.map_toArray, List.map_cons, List.map_nil]); first | done | rfl | (simp only [List.length_drop, List.length_take]; rfl)) ?_; (with_reducible refine (bits_Ceil_uint16.calls kj3 (IntKind.u16.wrap (a0)) t129 t130 _ A14.out).mono ?_); rintro e w' ⟨rfl, ⟨nd, rfl⟩⟩; refine ⟨_, rfl, ?_⟩) | ((with_reducible refine gate_callee (f := 71) rfl ?_); refine goesL_ (some 45) rfl rfl Try.func71 (by kernel_rfl) rfl #[.int .u64 t122, .int .i64 a1] rfl (by (try simp only [List.map_toArray, List.map_cons, List.map_nil]); first | done | rfl | (simp only [List.length_drop, List.length_take]; rfl)) ?_; (with_reducible refine (croftref1_Ceil.calls kj3 t122 a1 t131 t132 _ A15.out).mono ?_); rintro e w' ⟨rfl, ⟨nd, rfl⟩⟩; refine ⟨_, rfl, ?_⟩))
          go_ret
          exact ⟨by first | rfl | (simp; done) | (simp [*]; done), by repeat (first | exact Drawn0.refl _ | apply Drawn0.step)⟩
        · rw [if_neg c16] at H
          have c16b0 : ((IntKind.u64.wrap (t129)) == t131) = false := beq_eq_false_iff_ne.mpr c16
          have c16b1 : ((IntKind.u64.wrap (t129)) != t131) = true := bne_iff_ne.mpr c16
          obtain rfl := Option.some.inj H
          go_wp2_with (first | ((with_reducible refine gate_callee (f := 72) rfl ?_); refine goesL_ (some 39) rfl rfl Try.func72 (by kernel_rfl) rfl #[.int .u16 (IntKind.u16.wrap (a0))] rfl (by (try simp only [List.map_toArray, List.map_cons, List.map_nil]); first | done | rfl | (simp only [List.length_drop, List.length_take]; rfl)) ?_; (with_reducible refine (bits_Ceil_uint16.calls kj3 (IntKind.u16.wrap (a0)) t129 t130 _ A14.out).mono ?_); rintro e w' ⟨rfl, ⟨nd, rfl⟩⟩; refine ⟨_, rfl, ?_⟩) | ((with_reducible refine gate_callee (f := 71) rfl ?_); refine goesL_ (some 45) rfl rfl Try.func71 (by kernel_rfl) rfl #[.int .u64 t122, .int .i64 a1] rfl (by (try simp only [List.map_toArray, List.map_cons, List.map_nil]); first | done | rfl | (simp only [List.length_drop, List.length_take]; rfl)) ?_; (with_reducible refine (croftref1_Ceil.calls kj3 t122 a1 t131 t132 _ A15.out).mono ?_); rintro e w' ⟨rfl, ⟨nd, rfl⟩⟩; refine ⟨_, rfl, ?_⟩))
          go_ret
          exact ⟨by first | rfl | (simp; done) | (simp [*]; done), by repeat (first | exact Drawn0.refl _ | apply Drawn0.step)⟩

/-! ### bits_Log_uint32: function 42 -/
def bits_Log_uint32.f (k : Nat) (a0 : Int) : Option (Int) := (bits_Len64.f k (IntKind.u64.wrap (a0))).bind fun t133 => (some (wrap64 (t133 - 1)))
theorem bits_Log_uint32.mono : ∀ a0 k, LeO (bits_Log_uint32.f k a0) (bits_Log_uint32.f (k + 1) a0) := by
  intro a0 k
  unfold bits_Log_uint32.f
  repeat' first
      | (with_reducible exact bits_Len64.mono _ _)
      | (with_reducible exact LeO.refl _)
      | (with_reducible exact LeO.none _)
      | (with_reducible refine LeO.ite ?_ ?_)
      | (with_reducible refine LeO.bind ?_ (fun _ => ?_))
      | exact bits_Len64.mono _ _
      | exact LeO.none _
      | refine LeO.ite ?_ ?_
      | refine LeO.bind ?_ (fun _ => ?_)
set_option maxHeartbeats 8000000 in
set_option maxRecDepth 100000 in
theorem bits_Log_uint32.calls (k : Nat) (a0 : Int) (r : Int) (w : World) (h : bits_Log_uint32.f k a0 = some r) :
    Calls Try.prog 42 #[.int .u32 a0] w fun e w' => e = .returned (.int .i64 r) ∧ Drawn0 w w' := by
  have H : ((bits_Len64.f k (IntKind.u64.wrap (a0))).bind fun t133 => (some (wrap64 (t133 - 1)))) = some r := h
  clear h
  replace H := Option.bind_eq_some_iff.mp H
  obtain ⟨t133, A20, H⟩ := H
  replace H : (some (wrap64 (t133 - 1))) = some r := H
  have A2 := Aside0.mk A20
  clear A20
  obtain rfl := Option.some.inj H
  go_enter Try.func42, Try.ntmps42
  go_wp2_with (first | ((with_reducible refine gate_callee (f := 82) rfl ?_); refine goesL_ (some 5) rfl rfl Try.func82 (by kernel_rfl) rfl #[.int .u64 (IntKind.u64.wrap (a0))] rfl (by (try simp only [List.map_toArray, List.map_cons, List.map_nil]); first | done | rfl | (simp only [List.length_drop, List.length_take]; rfl)) ?_; (with_reducible refine (bits_Len64.calls k (IntKind.u64.wrap (a0)) t133 _ A2.out).mono ?_); rintro e w' ⟨rfl, ⟨nd, rfl⟩⟩; refine ⟨_, rfl, ?_⟩))
  go_ret
  exact ⟨by first | rfl | (simp; done) | (simp [*]; done), by repeat (first | exact Drawn0.refl _ | apply Drawn0.step)⟩

/-! ### bits_Count_uint32: function 45 -/
def bits_Count_uint32.f (a0 : Int) : Option (Int) := (bits_OnesCount64.f (IntKind.u64.wrap (a0))).bind fun t134 => (some t134)
set_option maxHeartbeats 8000000 in
set_option maxRecDepth 100000 in
theorem bits_Count_uint32.calls (a0 : Int) (r : Int) (w : World) (h : bits_Count_uint32.f a0 = some r) :
    Calls Try.prog 45 #[.int .u32 a0] w fun e w' => e = .returned (.int .i64 r) ∧ Drawn0 w w' := by
  have H : ((bits_OnesCount64.f (IntKind.u64.wrap (a0))).bind fun t134 => (some t134)) = some r := h
  clear h
  replace H := Option.bind_eq_some_iff.mp H
  obtain ⟨t134, A20, H⟩ := H
  replace H : (some t134) = some r := H
  have A2 := Aside0.mk A20
  clear A20
  obtain rfl := Option.some.inj H
  go_enter Try.func45, Try.ntmps45
  go_wp2_with (first | ((with_reducible refine gate_callee (f := 81) rfl ?_); refine goesL_ (some 5) rfl rfl Try.func81 (by kernel_rfl) rfl #[.int .u64 (IntKind.u64.wrap (a0))] rfl (by (try simp only [List.map_toArray, List.map_cons, List.map_nil]); first | done | rfl | (simp only [List.length_drop, List.length_take]; rfl)) ?_; (with_reducible refine (bits_OnesCount64.calls (IntKind.u64.wrap (a0)) t134 _ A2.out).mono ?_); rintro e w' ⟨rfl, ⟨nd, rfl⟩⟩; refine ⟨_, rfl, ?_⟩))
  go_ret
  exact ⟨by first | rfl | (simp; done) | (simp [*]; done), by repeat (first | exact Drawn0.refl _ | apply Drawn0.step)⟩

/-! ### bits_Ceil_uint32: function 48 -/
def bits_Ceil_uint32.f (k : Nat) (a0 : Int) : Option (Int × Bool) := if a0 ≤ 1 then (some (1, true)) else ((bits_Log_uint32.f k ((a0 - 1) % 4294967296)).bind fun t135 => (if 0 ≤ (wrap64 (t135 + 1)) then (some (shl .u32 1 (wrap64 (t135 + 1)), ((shl .u32 1 (wrap64 (t135 + 1))) != 0))) else (none)))
theorem bits_Ceil_uint32.mono : ∀ a0 k, LeO (bits_Ceil_uint32.f k a0) (bits_Ceil_uint32.f (k + 1) a0) := by
  intro a0 k
  unfold bits_Ceil_uint32.f
  repeat' first
      | (with_reducible exact bits_Log_uint32.mono _ _)
      | (with_reducible exact LeO.refl _)
      | (with_reducible exact LeO.none _)
      | (with_reducible refine LeO.ite ?_ ?_)
      | (with_reducible refine LeO.bind ?_ (fun _ => ?_))
      | exact bits_Log_uint32.mono _ _
      | exact LeO.none _
      | refine LeO.ite ?_ ?_
      | refine LeO.bind ?_ (fun _ => ?_)
set_option maxHeartbeats 8000000 in
set_option maxRecDepth 100000 in
theorem bits_Ceil_uint32.calls (k : Nat) (a0 : Int) (r1 : Int) (r2 : Bool) (w : World) (h : bits_Ceil_uint32.f k a0 = some (r1, r2)) :
    Calls Try.prog 48 #[.int .u32 a0] w fun e w' => e = .returned (.tuple #[.int .u32 r1, .bool r2]) ∧ Drawn0 w w' := by
  have H : (if a0 ≤ 1 then (some (1, true)) else ((bits_Log_uint32.f k ((a0 - 1) % 4294967296)).bind fun t135 => (if 0 ≤ (wrap64 (t135 + 1)) then (some (shl .u32 1 (wrap64 (t135 + 1)), ((shl .u32 1 (wrap64 (t135 + 1))) != 0))) else (none)))) = some (r1, r2) := h
  clear h
  by_cases c2 : a0 ≤ 1
  · rw [if_pos c2] at H
    have c2b0 : decide (a0 ≤ 1) = true := decide_eq_true c2
    clear c2
    simp only [Option.some.injEq, Prod.mk.injEq] at H
    obtain ⟨rfl, rfl⟩ := H
    go_enter Try.func48, Try.ntmps48
    go_wp2
    go_ret2
    exact ⟨by first | rfl | (simp; done) | (simp [*]; done), by repeat (first | exact Drawn0.refl _ | apply Drawn0.step)⟩
  · rw [if_neg c2] at H
    have c2b0 : decide (a0 ≤ 1) = false := decide_eq_false c2
    clear c2
    replace H := Option.bind_eq_some_iff.mp H
    obtain ⟨t135, A30, H⟩ := H
    replace H : (if 0 ≤ (wrap64 (t135 + 1)) then (some (shl .u32 1 (wrap64 (t135 + 1)), ((shl .u32 1 (wrap64 (t135 + 1))) != 0))) else (none)) = some (r1, r2) := H
    have A3 := Aside0.mk A30
    clear A30
    obtain ⟨ji4, hji4⟩ : ∃ j_ : Int, (wrap64 (t135 + 1)) = j_ := ⟨_, rfl⟩
    replace H : (if 0 ≤ (ji4) then (some (shl .u32 1 (ji4), ((shl .u32 1 (ji4)) != 0))) else (none)) = some (r1, r2) := by first | (rw [hji4] at H; exact H) | (simp only [hji4] at H ⊢; exact H)
    (try rw [hji4] at A3)
    have hji4w : (IntKind.i64.wrap (t135 + 1)) = ji4 := (i64_w _).trans hji4
    by_cases c5 : 0 ≤ (ji4)
    · rw [if_pos c5] at H
      have c5b0 := eq_true c5
      have c5b1 : decide (0 ≤ (ji4)) = true := decide_eq_true c5
      clear c5
      obtain ⟨ji6, hji6⟩ : ∃ j_ : Int, (shl .u32 1 (ji4)) = j_ := ⟨_, rfl⟩
      replace H : (some (ji6, ((ji6) != 0))) = some (r1, r2) := by first | (rw [hji6] at H; exact H) | (simp only [hji6] at H ⊢; exact H)
      (try rw [hji6] at A3)
      have hji6_ : (IntKind.u32.wrap (1 * 2 ^ min (ji4).toNat 32)) = ji6 := hji6
      have hji6z : (ji4) ≤ 32 → (IntKind.u32.wrap (1 * 2 ^ (ji4).toNat)) = ji6 := shl_small hji6
      have hji6u : (IntKind.u32.wrap (2 ^ min (ji4).toNat 32)) = ji6 := by have h_ := hji6_; rw [Int.one_mul] at h_; exact h_
      have hji6v : (ji4) ≤ 32 → (IntKind.u32.wrap (2 ^ (ji4).toNat)) = ji6 := fun hle_ => by have h_ := hji6z hle_; rw [Int.one_mul] at h_; exact h_
      simp only [Option.some.injEq, Prod.mk.injEq] at H
      obtain ⟨rfl, rfl⟩ := H
      go_enter Try.func48, Try.ntmps48
      go_wp2_with (first | ((with_reducible refine gate_callee (f := 42) rfl ?_); refine goesL_ (some 10) rfl rfl Try.func42 (by kernel_rfl) rfl #[.int .u32 ((a0 - 1) % 4294967296)] rfl (by (try simp only [List.map_toArray, List.map_cons, List.map_nil]); first | done | rfl | (simp only [List.length_drop, List.length_take]; rfl)) ?_; (with_reducible refine (bits_Log_uint32.calls k ((a0 - 1) % 4294967296) t135 _ A3.out).mono ?_); rintro e w' ⟨rfl, ⟨nd, rfl⟩⟩; refine ⟨_, rfl, ?_⟩))
      go_ret2
      exact ⟨by first | rfl | (simp; done) | (simp only [← hji4, ← hji6] <;> (first | rfl | simp)) | (simp [*]; done), by repeat (first | exact Drawn0.refl _ | apply Drawn0.step)⟩
    · rw [if_neg c5] at H
      exact absurd H (by simp)

/-! ### croftlaw1_powers_uint32: function 27 -/
def croftlaw1_powers_uint32.j0 : Nat → Int → Int → Int → Bool → Option (Bool)
  | 0, _, _, _, _ => none
  | k + 1, x1, x5, x6, x36 => if x36 = true then (some false) else ((bits_Ceil_uint32.f k x5).bind fun bt143 => ((croftref1_Ceil.f k x6 x1).bind fun bt145 => (if (IntKind.u64.wrap (bt143.1)) = bt145.1 then (some (bt143.2 == bt145.2)) else (some false))))
def croftlaw1_powers_uint32.f (k : Nat) (a0 : Int) (a1 : Int) : Option (Bool) := (croftref1_Cut.f a0 a1).bind fun t136 => ((bits_IsPower_uint32.f ((a0) % 4294967296)).bind fun t137 => ((croftref1_IsPower.f k t136 a1).bind fun t138 => (if (t137 != t138) = true then (croftlaw1_powers_uint32.j0 k a1 ((a0) % 4294967296) t136 true) else ((bits_Log_uint32.f k ((a0) % 4294967296)).bind fun t139 => ((croftref1_Log.f k t136 a1).bind fun t140 => (if t139 = t140 then ((bits_Count_uint32.f ((a0) % 4294967296)).bind fun t141 => ((croftref1_Count.f k t136).bind fun t142 => (croftlaw1_powers_uint32.j0 k a1 ((a0) % 4294967296) t136 (t141 != t142)))) else (croftlaw1_powers_uint32.j0 k a1 ((a0) % 4294967296) t136 true)))))))
theorem croftlaw1_powers_uint32.mono_l : ∀ k, (∀ y0 y1 y2 y3, LeO (croftlaw1_powers_uint32.j0 k y0 y1 y2 y3) (croftlaw1_powers_uint32.j0 (k + 1) y0 y1 y2 y3))
  | 0 => fun _ _ _ _ r h => by simp [croftlaw1_powers_uint32.j0] at h
  | k + 1 => by
    have ih0 := croftlaw1_powers_uint32.mono_l k
    · intro y0 y1 y2 y3
      unfold croftlaw1_powers_uint32.j0
      repeat' first
      | (with_reducible exact ih0 _ _ _ _)
      | (with_reducible exact bits_Ceil_uint32.mono _ _)
      | (with_reducible exact bits_Log_uint32.mono _ _)
      | (with_reducible exact croftref1_Ceil.mono _ _ _)
      | (with_reducible exact croftref1_Count.mono _ _)
      | (with_reducible exact croftref1_IsPower.mono _ _ _)
      | (with_reducible exact croftref1_Log.mono _ _ _)
      | (with_reducible exact LeO.refl _)
      | (with_reducible exact LeO.none _)
      | (with_reducible refine LeO.ite ?_ ?_)
      | (with_reducible refine LeO.bind ?_ (fun _ => ?_))
      | exact ih0 _ _ _ _
      | exact bits_Ceil_uint32.mono _ _
      | exact bits_Log_uint32.mono _ _
      | exact croftref1_Ceil.mono _ _ _
      | exact croftref1_Count.mono _ _
      | exact croftref1_IsPower.mono _ _ _
      | exact croftref1_Log.mono _ _ _
      | exact LeO.none _
      | refine LeO.ite ?_ ?_
      | refine LeO.bind ?_ (fun _ => ?_)
theorem croftlaw1_powers_uint32.mono : ∀ a0 a1 k, LeO (croftlaw1_powers_uint32.f k a0 a1) (croftlaw1_powers_uint32.f (k + 1) a0 a1) := by
  intro a0 a1 k
  have ih0 := croftlaw1_powers_uint32.mono_l k
  unfold croftlaw1_powers_uint32.f
  repeat' first
      | (with_reducible exact ih0 _ _ _ _)
      | (with_reducible exact bits_Ceil_uint32.mono _ _)
      | (with_reducible exact bits_Log_uint32.mono _ _)
      | (with_reducible exact croftref1_Ceil.mono _ _ _)
      | (with_reducible exact croftref1_Count.mono _ _)
      | (with_reducible exact croftref1_IsPower.mono _ _ _)
      | (with_reducible exact croftref1_Log.mono _ _ _)
      | (with_reducible exact LeO.refl _)
      | (with_reducible exact LeO.none _)
      | (with_reducible refine LeO.ite ?_ ?_)
      | (with_reducible refine LeO.bind ?_ (fun _ => ?_))
      | exact ih0 _ _ _ _
      | exact bits_Ceil_uint32.mono _ _
      | exact bits_Log_uint32.mono _ _
      | exact croftref1_Ceil.mono _ _ _
      | exact croftref1_Count.mono _ _
      | exact croftref1_IsPower.mono _ _ _
      | exact croftref1_Log.mono _ _ _
      | exact LeO.none _
      | refine LeO.ite ?_ ?_
      | refine LeO.bind ?_ (fun _ => ?_)
set_option maxHeartbeats 8000000 in
set_option maxRecDepth 100000 in
theorem croftlaw1_powers_uint32.calls (k : Nat) (a0 : Int) (a1 : Int) (r : Bool) (w : World) (h : croftlaw1_powers_uint32.f k a0 a1 = some r) :
    Calls Try.prog 27 #[.int .u64 a0, .int .i64 a1] w fun e w' => e = .returned (.bool r) ∧ Drawn0 w w' := by
  have H : ((croftref1_Cut.f a0 a1).bind fun t136 => ((bits_IsPower_uint32.f ((a0) % 4294967296)).bind fun t137 => ((croftref1_IsPower.f k t136 a1).bind fun t138 => (if (t137 != t138) = true then (croftlaw1_powers_uint32.j0 k a1 ((a0) % 4294967296) t136 true) else ((bits_Log_uint32.f k ((a0) % 4294967296)).bind fun t139 => ((croftref1_Log.f k t136 a1).bind fun t140 => (if t139 = t140 then ((bits_Count_uint32.f ((a0) % 4294967296)).bind fun t141 => ((croftref1_Count.f k t136).bind fun t142 => (croftlaw1_powers_uint32.j0 k a1 ((a0) % 4294967296) t136 (t141 != t142)))) else (croftlaw1_powers_uint32.j0 k a1 ((a0) % 4294967296) t136 true)))))))) = some r := h
  clear h
  replace H := Option.bind_eq_some_iff.mp H
  obtain ⟨t136, A30, H⟩ := H
  replace H : ((bits_IsPower_uint32.f ((a0) % 4294967296)).bind fun t137 => ((croftref1_IsPower.f k t136 a1).bind fun t138 => (if (t137 != t138) = true then (croftlaw1_powers_uint32.j0 k a1 ((a0) % 4294967296) t136 true) else ((bits_Log_uint32.f k ((a0) % 4294967296)).bind fun t139 => ((croftref1_Log.f k t136 a1).bind fun t140 => (if t139 = t140 then ((bits_Count_uint32.f ((a0) % 4294967296)).bind fun t141 => ((croftref1_Count.f k t136).bind fun t142 => (croftlaw1_powers_uint32.j0 k a1 ((a0) % 4294967296) t136 (t141 != t142)))) else (croftlaw1_powers_uint32.j0 k a1 ((a0) % 4294967296) t136 true))))))) = some r := H
  have A3 := Aside0.mk A30
  clear A30
  have HC4 := Aside0.mk H
  clear H
  go_enter Try.func27, Try.ntmps27
  go_upto_region 3 with (first | ((with_reducible refine gate_callee (f := 52) rfl ?_); refine goesL_ (some 15) rfl rfl Try.func52 (by kernel_rfl) rfl #[.int .u64 a0, .int .i64 a1] rfl (by (try simp only [List.map_toArray, List.map_cons, List.map_nil]); first | done | rfl | (simp only [List.length_drop, List.length_take]; rfl)) ?_; (with_reducible refine (croftref1_Cut.calls a0 a1 t136 _ A3.out).mono ?_); rintro e w' ⟨rfl, ⟨nd, rfl⟩⟩; refine ⟨_, rfl, ?_⟩))
  (try simp only [Act.put, List.setIfInBounds_toArray, List.set_cons_zero, List.set_cons_succ])
  go_cut [36] (fun v36 wc => ∃ (kq : Nat) (x36_3 : Bool), v36 = .bool x36_3 ∧ Aside0 (croftlaw1_powers_uint32.j0 kq a1 ((a0) % 4294967296) t136 x36_3 = some r) ∧ Aside0 (kq ≤ k) ∧ Drawn0 w wc)
  case first =>
    have H := HC4.out
    clear HC4
    replace H := Option.bind_eq_some_iff.mp H
    obtain ⟨t137, A50, H⟩ := H
    replace H : ((croftref1_IsPower.f k t136 a1).bind fun t138 => (if (t137 != t138) = true then (croftlaw1_powers_uint32.j0 k a1 ((a0) % 4294967296) t136 true) else ((bits_Log_uint32.f k ((a0) % 4294967296)).bind fun t139 => ((croftref1_Log.f k t136 a1).bind fun t140 => (if t139 = t140 then ((bits_Count_uint32.f ((a0) % 4294967296)).bind fun t141 => ((croftref1_Count.f k t136).bind fun t142 => (croftlaw1_powers_uint32.j0 k a1 ((a0) % 4294967296) t136 (t141 != t142)))) else (croftlaw1_powers_uint32.j0 k a1 ((a0) % 4294967296) t136 true)))))) = some r := H
    have A5 := Aside0.mk A50
    clear A50
    replace H := Option.bind_eq_some_iff.mp H
    obtain ⟨t138, A60, H⟩ := H
    replace H : (if (t137 != t138) = true then (croftlaw1_powers_uint32.j0 k a1 ((a0) % 4294967296) t136 true) else ((bits_Log_uint32.f k ((a0) % 4294967296)).bind fun t139 => ((croftref1_Log.f k t136 a1).bind fun t140 => (if t139 = t140 then ((bits_Count_uint32.f ((a0) % 4294967296)).bind fun t141 => ((croftref1_Count.f k t136).bind fun t142 => (croftlaw1_powers_uint32.j0 k a1 ((a0) % 4294967296) t136 (t141 != t142)))) else (croftlaw1_powers_uint32.j0 k a1 ((a0) % 4294967296) t136 true))))) = some r := H
    have A6 := Aside0.mk A60
    clear A60
    by_cases c7 : (t137 != t138) = true
    · rw [if_pos c7] at H
      have c7b0 : (t137 != t138) = true := c7
      (try (have c7b1 : decide (t137 = t138) = false := by simpa using c7))
      (try (have c7b2 : (t137 == t138) = false := by simpa using c7))
      (try (have c7b3 : ¬ (t137 = t138) := by simpa using c7))
      clear c7
      (first | rw [c7b0] | (simp only [i64_w, i32_w]; rw [c7b0]) | skip)
      have H' := Aside0.mk H
      clear H
      go_wp2_with (first | ((with_reducible refine gate_callee (f := 39) rfl ?_); refine goesL_ (some 17) rfl rfl Try.func39 (by kernel_rfl) rfl #[.int .u32 ((a0) % 4294967296)] rfl (by (try simp only [List.map_toArray, List.map_cons, List.map_nil]); first | done | rfl | (simp only [List.length_drop, List.length_take]; rfl)) ?_; (with_reducible refine (bits_IsPower_uint32.calls ((a0) % 4294967296) t137 _ A5.out).mono ?_); rintro e w' ⟨rfl, ⟨nd, rfl⟩⟩; refine ⟨_, rfl, ?_⟩) | ((with_reducible refine gate_callee (f := 68) rfl ?_); refine goesL_ (some 20) rfl rfl Try.func68 (by kernel_rfl) rfl #[.int .u64 t136, .int .i64 a1] rfl (by (try simp only [List.map_toArray, List.map_cons, List.map_nil]); first | done | rfl | (simp only [List.length_drop, List.length_take]; rfl)) ?_; (with_reducible refine (croftref1_IsPower.calls k t136 a1 t138 _ A6.out).mono ?_); rintro e w' ⟨rfl, ⟨nd, rfl⟩⟩; refine ⟨_, rfl, ?_⟩))
      go_meet
      case rel => exact ⟨_, (true), (by first | rfl | (simp; done) | (simp [*]; done)), H', ⟨by first | omega | exact Nat.le_refl _⟩, by repeat (first | exact Drawn0.refl _ | apply Drawn0.step)⟩
    · rw [if_neg c7] at H
      have c7b0 : (t137 != t138) = false := by simpa using c7
      (try (have c7b1 : decide (t137 = t138) = true := by simpa using c7))
      (try (have c7b2 : (t137 == t138) = true := by simpa using c7))
      clear c7
      (first | rw [c7b0] | (simp only [i64_w, i32_w]; rw [c7b0]) | skip)
      replace H := Option.bind_eq_some_iff.mp H
      obtain ⟨t139, A80, H⟩ := H
      replace H : ((croftref1_Log.f k t136 a1).bind fun t140 => (if t139 = t140 then ((bits_Count_uint32.f ((a0) % 4294967296)).bind fun t141 => ((croftref1_Count.f k t136).bind fun t142 => (croftlaw1_powers_uint32.j0 k a1 ((a0) % 4294967296) t136 (t141 != t142)))) else (croftlaw1_powers_uint32.j0 k a1 ((a0) % 4294967296) t136 true))) = some r := H
      have A8 := Aside0.mk A80
      clear A80
      replace H := Option.bind_eq_some_iff.mp H
      obtain ⟨t140, A90, H⟩ := H
      replace H : (if t139 = t140 then ((bits_Count_uint32.f ((a0) % 4294967296)).bind fun t141 => ((croftref1_Count.f k t136).bind fun t142 => (croftlaw1_powers_uint32.j0 k a1 ((a0) % 4294967296) t136 (t141 != t142)))) else (croftlaw1_powers_uint32.j0 k a1 ((a0) % 4294967296) t136 true)) = some r := H
      have A9 := Aside0.mk A90
      clear A90
      by_cases c10 : t139 = t140
      · rw [if_pos c10] at H
        have c10b0 : (t139 == t140) = true := beq_iff_eq.mpr c10
        have c10b1 : (t139 != t140) = false := bne_eq_false_iff_eq.mpr c10
        clear c10
        replace H := Option.bind_eq_some_iff.mp H
        obtain ⟨t141, A110, H⟩ := H
        replace H : ((croftref1_Count.f k t136).bind fun t142 => (croftlaw1_powers_uint32.j0 k a1 ((a0) % 4294967296) t136 (t141 != t142))) = some r := H
        have A11 := Aside0.mk A110
        clear A110
        replace H := Option.bind_eq_some_iff.mp H
        obtain ⟨t142, A120, H⟩ := H
        replace H : (croftlaw1_powers_uint32.j0 k a1 ((a0) % 4294967296) t136 (t141 != t142)) = some r := H
        have A12 := Aside0.mk A120
        clear A120
        have H' := Aside0.mk H
        clear H
        go_wp2_with (first | ((with_reducible refine gate_callee (f := 39) rfl ?_); refine goesL_ (some 17) rfl rfl Try.func39 (by kernel_rfl) rfl #[.int .u32 ((a0) % 4294967296)] rfl (by (try simp only [List.map_toArray, List.map_cons, List.map_nil]); first | done | rfl | (simp only [List.length_drop, List.length_take]; rfl)) ?_; (with_reducible refine (bits_IsPower_uint32.calls ((a0) % 4294967296) t137 _ A5.out).mono ?_); rintro e w' ⟨rfl, ⟨nd, rfl⟩⟩; refine ⟨_, rfl, ?_⟩) | ((with_reducible refine gate_callee (f := 68) rfl ?_); refine goesL_ (some 20) rfl rfl Try.func68 (by kernel_rfl) rfl #[.int .u64 t136, .int .i64 a1] rfl (by (try simp only [List.map_toArray, List.map_cons, List.map_nil]); first | done | rfl | (simp only [List.length_drop, List.length_take]; rfl)) ?_; (with_reducible refine (croftref1_IsPower.calls k t136 a1 t138 _ A6.out).mono ?_); rintro e w' ⟨rfl, ⟨nd, rfl⟩⟩; refine ⟨_, rfl, ?_⟩) | (go_at_call 42; (with_reducible refine (bits_Log_uint32.calls k ((a0) % 4294967296) t139 _ A8.out).mono ?_); rintro e w' ⟨rfl, ⟨nd, rfl⟩⟩) | (go_at_call 69; (with_reducible refine (croftref1_Log.calls k t136 a1 t140 _ A9.out).mono ?_); rintro e w' ⟨rfl, ⟨nd, rfl⟩⟩) | (go_at_call 45; (with_reducible refine (bits_Count_uint32.calls ((a0) % 4294967296) t141 _ A11.out).mono ?_); rintro e w' ⟨rfl, ⟨nd, rfl⟩⟩) | (go_at_call 70; (with_reducible refine (croftref1_Count.calls k t136 t142 _ A12.out).mono ?_); rintro e w' ⟨rfl, ⟨nd, rfl⟩⟩))
        go_meet
        case rel => exact ⟨_, ((t141 != t142)), (by first | rfl | (simp; done) | (simp [*]; done)), H', ⟨by first | omega | exact Nat.le_refl _⟩, by repeat (first | exact Drawn0.refl _ | apply Drawn0.step)⟩
      · rw [if_neg c10] at H
        have c10b0 : (t139 == t140) = false := beq_eq_false_iff_ne.mpr c10
        have c10b1 : (t139 != t140) = true := bne_iff_ne.mpr c10
        have H' := Aside0.mk H
        clear H
        go_wp2_with (first | ((with_reducible refine gate_callee (f := 39) rfl ?_); refine goesL_ (some 17) rfl rfl Try.func39 (by kernel_rfl) rfl #[.int .u32 ((a0) % 4294967296)] rfl (by (try simp only [List.map_toArray, List.map_cons, List.map_nil]); first | done | rfl | (simp only [List.length_drop, List.length_take]; rfl)) ?_; (with_reducible refine (bits_IsPower_uint32.calls ((a0) % 4294967296) t137 _ A5.out).mono ?_); rintro e w' ⟨rfl, ⟨nd, rfl⟩⟩; refine ⟨_, rfl, ?_⟩) | ((with_reducible refine gate_callee (f := 68) rfl ?_); refine goesL_ (some 20) rfl rfl Try.func68 (by kernel_rfl) rfl #[.int .u64 t136, .int .i64 a1] rfl (by (try simp only [List.map_toArray, List.map_cons, List.map_nil]); first | done | rfl | (simp only [List.length_drop, List.length_take]; rfl)) ?_; (with_reducible refine (croftref1_IsPower.calls k t136 a1 t138 _ A6.out).mono ?_); rintro e w' ⟨rfl, ⟨nd, rfl⟩⟩; refine ⟨_, rfl, ?_⟩) | (go_at_call 42; (with_reducible refine (bits_Log_uint32.calls k ((a0) % 4294967296) t139 _ A8.out).mono ?_); rintro e w' ⟨rfl, ⟨nd, rfl⟩⟩) | (go_at_call 69; (with_reducible refine (croftref1_Log.calls k t136 a1 t140 _ A9.out).mono ?_); rintro e w' ⟨rfl, ⟨nd, rfl⟩⟩))
        go_meet
        case rel => exact ⟨_, (true), (by first | rfl | (simp; done) | (simp [*]; done)), H', ⟨by first | omega | exact Nat.le_refl _⟩, by repeat (first | exact Drawn0.refl _ | apply Drawn0.step)⟩
  case rest =>
    clear HC4
    try clear c1
    try clear c2
    try clear p2
    try clear c3
    try clear c5
    try clear c6
    try clear c7
    try clear c7b0
    try clear c7b1
    try clear c7b2
    try clear c10
    try clear c10b0
    try clear c10b1
    obtain ⟨kq, x36_3, rfl, HA, HJ3, ⟨mc3, rfl⟩⟩ := hcut
    cases kq with
    | zero => exact absurd HA.out (by simp [croftlaw1_powers_uint32.j0])
    | succ kj3 =>
      have H := HA.out
      clear HA
      simp only [croftlaw1_powers_uint32.j0] at H
      by_cases c13 : x36_3 = true
      · subst c13
        have H1 : (some false) = some r := by rw [if_pos rfl] at H; exact H
        clear H
        have H := H1
        clear H1
        obtain rfl := Option.some.inj H
        go_wp2
        go_ret
        exact ⟨by first | rfl | (simp; done) | (simp [*]; done), by repeat (first | exact Drawn0.refl _ | apply Drawn0.step)⟩
      · replace c13 := Bool.eq_false_iff.mpr c13
        subst c13
        have H1 : ((bits_Ceil_uint32.f kj3 ((a0) % 4294967296)).bind fun bt143 => ((croftref1_Ceil.f kj3 t136 a1).bind fun bt145 => (if (IntKind.u64.wrap (bt143.1)) = bt145.1 then (some (bt143.2 == bt145.2)) else (some false)))) = some r := by rw [if_neg (show ¬ (false = true) by decide)] at H; exact H
        clear H
        have H := H1
        clear H1
        replace H := Option.bind_eq_some_iff.mp H
        obtain ⟨⟨t143, t144⟩, A140, H⟩ := H
        replace H : ((croftref1_Ceil.f kj3 t136 a1).bind fun bt145 => (if (IntKind.u64.wrap (t143)) = bt145.1 then (some (t144 == bt145.2)) else (some false))) = some r := H
        have A14 := Aside0.mk A140
        clear A140
        replace H := Option.bind_eq_some_iff.mp H
        obtain ⟨⟨t145, t146⟩, A150, H⟩ := H
        replace H : (if (IntKind.u64.wrap (t143)) = t145 then (some (t144 == t146)) else (some false)) = some r := H
        have A15 := Aside0.mk A150
        clear A150
        by_cases c16 : (IntKind.u64.wrap (t143)) = t145
        · rw [if_pos c16] at H
          have c16b0 : ((IntKind.u64.wrap (t143)) == t145) = true := beq_iff_eq.mpr c16
          have c16b1 : ((IntKind.u64.wrap (t143)) != t145) = false := bne_eq_false_iff_eq.mpr c16
          clear c16
          obtain rfl := Option.some.inj H
          go_wp2_with (first | ((with_reducible refine gate_callee (f := 48) rfl ?_); refine goesL_ (some 39) rfl rfl Try.func48 (by kernel_rfl) rfl #[.int .u32 ((a0) % 4294967296)] rfl (by (try simp only [List.map_toArray, List.map_cons, List.map_nil]); first | done | rfl | (simp only [List.length_drop, List.length_take]; rfl)) ?_; (with_reducible refine (bits_Ceil_uint32.calls kj3 ((a0) % 4294967296) t143 t144 _ A14.out).mono ?_); rintro e w' ⟨rfl, ⟨nd, rfl⟩⟩; refine ⟨_, rfl, ?_⟩) | ((with_reducible refine gate_callee (f := 71) rfl ?_); refine goesL_ (some 45) rfl rfl Try.func71 (by kernel_rfl) rfl #[.int .u64 t136, .int .i64 a1] rfl (by (try simp only [List.map_toArray, List.map_cons, List.map_nil]); first | done | rfl | (simp only [List.length_drop, List.length_take]; rfl)) ?_; (with_reducible refine (croftref1_Ceil.calls kj3 t136 a1 t145 t146 _ A15.out).mono ?_); rintro e w' ⟨rfl, ⟨nd, rfl⟩⟩; refine ⟨_, rfl, ?_⟩))
          go_ret
          exact ⟨by first | rfl | (simp; done) | (simp [*]; done), by repeat (first | exact Drawn0.refl _ | apply Drawn0.step)⟩
        · rw [if_neg c16] at H
          have c16b0 : ((IntKind.u64.wrap (t143)) == t145) = false := beq_eq_false_iff_ne.mpr c16
          have c16b1 : ((IntKind.u64.wrap (t143)) != t145) = true := bne_iff_ne.mpr c16
          obtain rfl := Option.some.inj H
          go_wp2_with (first | ((with_reducible refine gate_callee (f := 48) rfl ?_); refine goesL_ (some 39) rfl rfl Try.func48 (by kernel_rfl) rfl #[.int .u32 ((a0) % 4294967296)] rfl (by (try simp only [List.map_toArray, List.map_cons, List.map_nil]); first | done | rfl | (simp only [List.length_drop, List.length_take]; rfl)) ?_; (with_reducible refine (bits_Ceil_uint32.calls kj3 ((a0) % 4294967296) t143 t144 _ A14.out).mono ?_); rintro e w' ⟨rfl, ⟨nd, rfl⟩⟩; refine ⟨_, rfl, ?_⟩) | ((with_reducible refine gate_callee (f := 71) rfl ?_); refine goesL_ (some 45) rfl rfl Try.func71 (by kernel_rfl) rfl #[.int .u64 t136, .int .i64 a1] rfl (by (try simp only [List.map_toArray, List.map_cons, List.map_nil]); first | done | rfl | (simp only [List.length_drop, List.length_take]; rfl)) ?_; (with_reducible refine (croftref1_Ceil.calls kj3 t136 a1 t145 t146 _ A15.out).mono ?_); rintro e w' ⟨rfl, ⟨nd, rfl⟩⟩; refine ⟨_, rfl, ?_⟩))
          go_ret
          exact ⟨by first | rfl | (simp; done) | (simp [*]; done), by repeat (first | exact Drawn0.refl _ | apply Drawn0.step)⟩

/-! ### bits_Log_uint64: function 36 -/
def bits_Log_uint64.f (k : Nat) (a0 : Int) : Option (Int) := (bits_Len64.f k a0).bind fun t147 => (some (wrap64 (t147 - 1)))
theorem bits_Log_uint64.mono : ∀ a0 k, LeO (bits_Log_uint64.f k a0) (bits_Log_uint64.f (k + 1) a0) := by
  intro a0 k
  unfold bits_Log_uint64.f
  repeat' first
      | (with_reducible exact bits_Len64.mono _ _)
      | (with_reducible exact LeO.refl _)
      | (with_reducible exact LeO.none _)
      | (with_reducible refine LeO.ite ?_ ?_)
      | (with_reducible refine LeO.bind ?_ (fun _ => ?_))
      | exact bits_Len64.mono _ _
      | exact LeO.none _
      | refine LeO.ite ?_ ?_
      | refine LeO.bind ?_ (fun _ => ?_)
set_option maxHeartbeats 8000000 in
set_option maxRecDepth 100000 in
theorem bits_Log_uint64.calls (k : Nat) (a0 : Int) (r : Int) (w : World) (h : bits_Log_uint64.f k a0 = some r) :
    Calls Try.prog 36 #[.int .u64 a0] w fun e w' => e = .returned (.int .i64 r) ∧ Drawn0 w w' := by
  have H : ((bits_Len64.f k a0).bind fun t147 => (some (wrap64 (t147 - 1)))) = some r := h
  clear h
  replace H := Option.bind_eq_some_iff.mp H
  obtain ⟨t147, A20, H⟩ := H
  replace H : (some (wrap64 (t147 - 1))) = some r := H
  have A2 := Aside0.mk A20
  clear A20
  obtain rfl := Option.some.inj H
  go_enter Try.func36, Try.ntmps36
  go_wp2_with (first | ((with_reducible refine gate_callee (f := 82) rfl ?_); refine goesL_ (some 4) rfl rfl Try.func82 (by kernel_rfl) rfl #[.int .u64 a0] rfl (by (try simp only [List.map_toArray, List.map_cons, List.map_nil]); first | done | rfl | (simp only [List.length_drop, List.length_take]; rfl)) ?_; (with_reducible refine (bits_Len64.calls k a0 t147 _ A2.out).mono ?_); rintro e w' ⟨rfl, ⟨nd, rfl⟩⟩; refine ⟨_, rfl, ?_⟩))
  go_ret
  exact ⟨by first | rfl | (simp; done) | (simp [*]; done), by repeat (first | exact Drawn0.refl _ | apply Drawn0.step)⟩


end Go.Proofs.Ytccpoflhmooanaa.R
