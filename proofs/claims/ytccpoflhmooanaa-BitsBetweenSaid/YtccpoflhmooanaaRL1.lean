import Derived.Test.YtccpoflhmooanaaRL0
namespace Go.Proofs.Ytccpoflhmooanaa.R
open Go.RowKit Go.Proofs.YtccpoflhmooanaaW.PrintWords Go.Proofs.YtccpoflhmooanaaW.PrintLast Go.Proofs.YtccpoflhmooanaaW.PrintMore
attribute [local go_sem] max2_int min2_int max_two min_two max_three min_three max_four min_four
set_option linter.unusedVariables false
set_option linter.unusedSimpArgs false

/-! ### croftlaw1_awake: function 16 -/
def croftlaw1_awake.f  : Option (Bool) := some true
theorem croftlaw1_awake.calls  (r : Bool) (w : World) (h : croftlaw1_awake.f  = some r) :
    Calls Try.prog 16 #[] w fun e w' => e = .returned (.bool r) ∧ Below w.heap.size w w' := by
  obtain rfl := Option.some.inj h
  exact Go.Proofs.Ytccpoflhmooanaa.Sets.awake_calls w
/-! ### croftlaw1_BitsBetween: function 7 -/
def croftlaw1_BitsBetween.j0 : Nat → Int → Int → Int → Int → Bool → Bool → Option (Bool)
  | 0, _, _, _, _, _, _ => none
  | k + 1, x0, x1, x5, x7, x8, x60 => if x60 = true then (some false) else (if x8 = true then (if x7 ≥ x0 then (if (IntKind.u64.wrap (x7 - x0)) < x1 then (if (Go.bits .and .u64 x7 (IntKind.u64.wrap (x1 - 1))) = 0 then (some ((x7 == x5) == (x5 == x0))) else (some false)) else (some false)) else (some false)) else (if x7 = 0 then (if x5 = x0 then (some false) else (some ((IntKind.u64.wrap (x5 + x1)) == 0))) else (some false)))
def croftlaw1_BitsBetween.f (k : Nat) (a0 : Int) (a1 : Int) : Option (Bool) := (croftlaw1_awake.f).bind fun t119 => (if t119 = true then ((bits_Down_uint64.f a0 a1).bind fun bt120 => ((bits_Up_uint64.f k a0 a1).bind fun bt122 => ((bits_IsPower_uint64.f a1).bind fun t124 => (if t124 = true then (if bt120.2 = true then (if bt120.1 > a0 then (croftlaw1_BitsBetween.j0 k a0 a1 bt120.1 bt122.1 bt122.2 true) else (if (IntKind.u64.wrap (a0 - bt120.1)) ≥ a1 then (croftlaw1_BitsBetween.j0 k a0 a1 bt120.1 bt122.1 bt122.2 true) else (croftlaw1_BitsBetween.j0 k a0 a1 bt120.1 bt122.1 bt122.2 ((Go.bits .and .u64 bt120.1 (IntKind.u64.wrap (a1 - 1))) != 0)))) else (croftlaw1_BitsBetween.j0 k a0 a1 bt120.1 bt122.1 bt122.2 true)) else (if bt120.2 = true then (some false) else (if bt122.2 = true then (some false) else (if bt120.1 = 0 then (some (bt122.1 == 0)) else (some false)))))))) else (some false))
theorem croftlaw1_BitsBetween.mono_l : ∀ k, (∀ y0 y1 y2 y3 y4 y5, LeO (croftlaw1_BitsBetween.j0 k y0 y1 y2 y3 y4 y5) (croftlaw1_BitsBetween.j0 (k + 1) y0 y1 y2 y3 y4 y5))
  | 0 => fun _ _ _ _ _ _ r h => by simp [croftlaw1_BitsBetween.j0] at h
  | k + 1 => by
    have ih0 := croftlaw1_BitsBetween.mono_l k
    · intro y0 y1 y2 y3 y4 y5
      unfold croftlaw1_BitsBetween.j0
      repeat' first
      | (with_reducible exact ih0 _ _ _ _ _ _)
      | (with_reducible exact bits_Up_uint64.mono _ _ _)
      | (with_reducible exact LeO.refl _)
      | (with_reducible exact LeO.none _)
      | (with_reducible refine LeO.ite ?_ ?_)
      | (with_reducible refine LeO.bind ?_ (fun _ => ?_))
      | exact ih0 _ _ _ _ _ _
      | exact bits_Up_uint64.mono _ _ _
      | exact LeO.none _
      | refine LeO.ite ?_ ?_
      | refine LeO.bind ?_ (fun _ => ?_)
theorem croftlaw1_BitsBetween.mono : ∀ a0 a1 k, LeO (croftlaw1_BitsBetween.f k a0 a1) (croftlaw1_BitsBetween.f (k + 1) a0 a1) := by
  intro a0 a1 k
  have ih0 := croftlaw1_BitsBetween.mono_l k
  unfold croftlaw1_BitsBetween.f
  repeat' first
      | (with_reducible exact ih0 _ _ _ _ _ _)
      | (with_reducible exact bits_Up_uint64.mono _ _ _)
      | (with_reducible exact LeO.refl _)
      | (with_reducible exact LeO.none _)
      | (with_reducible refine LeO.ite ?_ ?_)
      | (with_reducible refine LeO.bind ?_ (fun _ => ?_))
      | exact ih0 _ _ _ _ _ _
      | exact bits_Up_uint64.mono _ _ _
      | exact LeO.none _
      | refine LeO.ite ?_ ?_
      | refine LeO.bind ?_ (fun _ => ?_)
set_option maxHeartbeats 8000000 in
set_option maxRecDepth 100000 in
theorem croftlaw1_BitsBetween.calls (k : Nat) (a0 : Int) (a1 : Int) (r : Bool) (w : World) (h : croftlaw1_BitsBetween.f k a0 a1 = some r) :
    Calls Try.prog 7 #[.int .u64 a0, .int .u64 a1] w fun e w' => e = .returned (.bool r) ∧ Below w.heap.size w w' := by
  have HB := Aside0.mk (Below.refl w.heap.size w)
  have H : ((croftlaw1_awake.f).bind fun t119 => (if t119 = true then ((bits_Down_uint64.f a0 a1).bind fun bt120 => ((bits_Up_uint64.f k a0 a1).bind fun bt122 => ((bits_IsPower_uint64.f a1).bind fun t124 => (if t124 = true then (if bt120.2 = true then (if bt120.1 > a0 then (croftlaw1_BitsBetween.j0 k a0 a1 bt120.1 bt122.1 bt122.2 true) else (if (IntKind.u64.wrap (a0 - bt120.1)) ≥ a1 then (croftlaw1_BitsBetween.j0 k a0 a1 bt120.1 bt122.1 bt122.2 true) else (croftlaw1_BitsBetween.j0 k a0 a1 bt120.1 bt122.1 bt122.2 ((Go.bits .and .u64 bt120.1 (IntKind.u64.wrap (a1 - 1))) != 0)))) else (croftlaw1_BitsBetween.j0 k a0 a1 bt120.1 bt122.1 bt122.2 true)) else (if bt120.2 = true then (some false) else (if bt122.2 = true then (some false) else (if bt120.1 = 0 then (some (bt122.1 == 0)) else (some false)))))))) else (some false))) = some r := h
  clear h
  replace H := Option.bind_eq_some_iff.mp H
  obtain ⟨t119, A30, H⟩ := H
  replace H : (if t119 = true then ((bits_Down_uint64.f a0 a1).bind fun bt120 => ((bits_Up_uint64.f k a0 a1).bind fun bt122 => ((bits_IsPower_uint64.f a1).bind fun t124 => (if t124 = true then (if bt120.2 = true then (if bt120.1 > a0 then (croftlaw1_BitsBetween.j0 k a0 a1 bt120.1 bt122.1 bt122.2 true) else (if (IntKind.u64.wrap (a0 - bt120.1)) ≥ a1 then (croftlaw1_BitsBetween.j0 k a0 a1 bt120.1 bt122.1 bt122.2 true) else (croftlaw1_BitsBetween.j0 k a0 a1 bt120.1 bt122.1 bt122.2 ((Go.bits .and .u64 bt120.1 (IntKind.u64.wrap (a1 - 1))) != 0)))) else (croftlaw1_BitsBetween.j0 k a0 a1 bt120.1 bt122.1 bt122.2 true)) else (if bt120.2 = true then (some false) else (if bt122.2 = true then (some false) else (if bt120.1 = 0 then (some (bt122.1 == 0)) else (some false)))))))) else (some false)) = some r := H
  have A3 := Aside0.mk A30
  clear A30
  by_cases c4 : t119 = true
  · subst c4
    have H1 : ((bits_Down_uint64.f a0 a1).bind fun bt120 => ((bits_Up_uint64.f k a0 a1).bind fun bt122 => ((bits_IsPower_uint64.f a1).bind fun t124 => (if t124 = true then (if bt120.2 = true then (if bt120.1 > a0 then (croftlaw1_BitsBetween.j0 k a0 a1 bt120.1 bt122.1 bt122.2 true) else (if (IntKind.u64.wrap (a0 - bt120.1)) ≥ a1 then (croftlaw1_BitsBetween.j0 k a0 a1 bt120.1 bt122.1 bt122.2 true) else (croftlaw1_BitsBetween.j0 k a0 a1 bt120.1 bt122.1 bt122.2 ((Go.bits .and .u64 bt120.1 (IntKind.u64.wrap (a1 - 1))) != 0)))) else (croftlaw1_BitsBetween.j0 k a0 a1 bt120.1 bt122.1 bt122.2 true)) else (if bt120.2 = true then (some false) else (if bt122.2 = true then (some false) else (if bt120.1 = 0 then (some (bt122.1 == 0)) else (some false)))))))) = some r := by rw [if_pos rfl] at H; exact H
    clear H
    have H := H1
    clear H1
    replace H := Option.bind_eq_some_iff.mp H
    obtain ⟨⟨t120, t121⟩, A50, H⟩ := H
    replace H : ((bits_Up_uint64.f k a0 a1).bind fun bt122 => ((bits_IsPower_uint64.f a1).bind fun t124 => (if t124 = true then (if t121 = true then (if t120 > a0 then (croftlaw1_BitsBetween.j0 k a0 a1 t120 bt122.1 bt122.2 true) else (if (IntKind.u64.wrap (a0 - t120)) ≥ a1 then (croftlaw1_BitsBetween.j0 k a0 a1 t120 bt122.1 bt122.2 true) else (croftlaw1_BitsBetween.j0 k a0 a1 t120 bt122.1 bt122.2 ((Go.bits .and .u64 t120 (IntKind.u64.wrap (a1 - 1))) != 0)))) else (croftlaw1_BitsBetween.j0 k a0 a1 t120 bt122.1 bt122.2 true)) else (if t121 = true then (some false) else (if bt122.2 = true then (some false) else (if t120 = 0 then (some (bt122.1 == 0)) else (some false))))))) = some r := H
    have A5 := Aside0.mk A50
    clear A50
    replace H := Option.bind_eq_some_iff.mp H
    obtain ⟨⟨t122, t123⟩, A60, H⟩ := H
    replace H : ((bits_IsPower_uint64.f a1).bind fun t124 => (if t124 = true then (if t121 = true then (if t120 > a0 then (croftlaw1_BitsBetween.j0 k a0 a1 t120 t122 t123 true) else (if (IntKind.u64.wrap (a0 - t120)) ≥ a1 then (croftlaw1_BitsBetween.j0 k a0 a1 t120 t122 t123 true) else (croftlaw1_BitsBetween.j0 k a0 a1 t120 t122 t123 ((Go.bits .and .u64 t120 (IntKind.u64.wrap (a1 - 1))) != 0)))) else (croftlaw1_BitsBetween.j0 k a0 a1 t120 t122 t123 true)) else (if t121 = true then (some false) else (if t123 = true then (some false) else (if t120 = 0 then (some (t122 == 0)) else (some false)))))) = some r := H
    have A6 := Aside0.mk A60
    clear A60
    replace H := Option.bind_eq_some_iff.mp H
    obtain ⟨t124, A70, H⟩ := H
    replace H : (if t124 = true then (if t121 = true then (if t120 > a0 then (croftlaw1_BitsBetween.j0 k a0 a1 t120 t122 t123 true) else (if (IntKind.u64.wrap (a0 - t120)) ≥ a1 then (croftlaw1_BitsBetween.j0 k a0 a1 t120 t122 t123 true) else (croftlaw1_BitsBetween.j0 k a0 a1 t120 t122 t123 ((Go.bits .and .u64 t120 (IntKind.u64.wrap (a1 - 1))) != 0)))) else (croftlaw1_BitsBetween.j0 k a0 a1 t120 t122 t123 true)) else (if t121 = true then (some false) else (if t123 = true then (some false) else (if t120 = 0 then (some (t122 == 0)) else (some false))))) = some r := H
    have A7 := Aside0.mk A70
    clear A70
    by_cases c8 : t124 = true
    · subst c8
      have H1 : (if t121 = true then (if t120 > a0 then (croftlaw1_BitsBetween.j0 k a0 a1 t120 t122 t123 true) else (if (IntKind.u64.wrap (a0 - t120)) ≥ a1 then (croftlaw1_BitsBetween.j0 k a0 a1 t120 t122 t123 true) else (croftlaw1_BitsBetween.j0 k a0 a1 t120 t122 t123 ((Go.bits .and .u64 t120 (IntKind.u64.wrap (a1 - 1))) != 0)))) else (croftlaw1_BitsBetween.j0 k a0 a1 t120 t122 t123 true)) = some r := by rw [if_pos rfl] at H; exact H
      clear H
      have H := H1
      clear H1
      have HC9 := Aside0.mk H
      clear H
      go_enter Try.func7, Try.ntmps7
      go_upto_region 7 with (first | ((with_reducible refine gate_callee (f := 16) rfl ?_); refine goesL_ (some 9) rfl rfl Try.func16 (by kernel_rfl) rfl #[] rfl (by (try simp only [List.map_toArray, List.map_cons, List.map_nil]); first | done | rfl | (simp only [List.length_drop, List.length_take]; rfl)) ?_; (with_reducible refine (croftlaw1_awake.calls  true _ A3.out).mono ?_); rintro e w10 ⟨rfl, hb⟩; refine ⟨_, rfl, ?_⟩; have n0_ := Aside0.mk (below_step (by repeat (first | (with_reducible first | exact HB.out | apply below_alloc | apply pw_below_drewN | apply below_drew1) | exact HB.out)) hb); clear HB; have HB := n0_; clear n0_; (try clear hb); (try clear hb2); (try clear hk); (try clear hi)) | ((with_reducible refine gate_callee (f := 31) rfl ?_); refine goesL_ (some 14) rfl rfl Try.func31 (by kernel_rfl) rfl #[.int .u64 a0, .int .u64 a1] rfl (by (try simp only [List.map_toArray, List.map_cons, List.map_nil]); first | done | rfl | (simp only [List.length_drop, List.length_take]; rfl)) ?_; (with_reducible refine (bits_Down_uint64.calls a0 a1 t120 t121 _ A5.out).mono ?_); rintro e w' ⟨rfl, ⟨nd, rfl⟩⟩; refine ⟨_, rfl, ?_⟩) | ((with_reducible refine gate_callee (f := 32) rfl ?_); refine goesL_ (some 20) rfl rfl Try.func32 (by kernel_rfl) rfl #[.int .u64 a0, .int .u64 a1] rfl (by (try simp only [List.map_toArray, List.map_cons, List.map_nil]); first | done | rfl | (simp only [List.length_drop, List.length_take]; rfl)) ?_; (with_reducible refine (bits_Up_uint64.calls k a0 a1 t122 t123 _ A6.out).mono ?_); rintro e w' ⟨rfl, ⟨nd, rfl⟩⟩; refine ⟨_, rfl, ?_⟩) | ((with_reducible refine gate_callee (f := 33) rfl ?_); refine goesL_ (some 24) rfl rfl Try.func33 (by kernel_rfl) rfl #[.int .u64 a1] rfl (by (try simp only [List.map_toArray, List.map_cons, List.map_nil]); first | done | rfl | (simp only [List.length_drop, List.length_take]; rfl)) ?_; (with_reducible refine (bits_IsPower_uint64.calls a1 true _ A7.out).mono ?_); rintro e w' ⟨rfl, ⟨nd, rfl⟩⟩; refine ⟨_, rfl, ?_⟩))
      (try simp only [Act.put, List.setIfInBounds_toArray, List.set_cons_zero, List.set_cons_succ])
      go_cut [60] (fun v60 wc => ∃ (kq : Nat) (x60_8 : Bool), v60 = .bool x60_8 ∧ Aside0 (croftlaw1_BitsBetween.j0 kq a0 a1 t120 t122 t123 x60_8 = some r) ∧ Aside0 (kq ≤ k) ∧ Aside0 (Below w.heap.size w wc))
      case first =>
        have H := HC9.out
        clear HC9
        by_cases c11 : t121 = true
        · subst c11
          have H1 : (if t120 > a0 then (croftlaw1_BitsBetween.j0 k a0 a1 t120 t122 t123 true) else (if (IntKind.u64.wrap (a0 - t120)) ≥ a1 then (croftlaw1_BitsBetween.j0 k a0 a1 t120 t122 t123 true) else (croftlaw1_BitsBetween.j0 k a0 a1 t120 t122 t123 ((Go.bits .and .u64 t120 (IntKind.u64.wrap (a1 - 1))) != 0)))) = some r := by rw [if_pos rfl] at H; exact H
          clear H
          have H := H1
          clear H1
          by_cases c12 : t120 > a0
          · rw [if_pos c12] at H
            have c12b0 : decide (a0 < t120) = true := decide_eq_true c12
            clear c12
            (first | rw [c12b0] | (simp only [i64_w, i32_w]; rw [c12b0]) | skip)
            have H' := Aside0.mk H
            clear H
            go_wp2
            go_meet
            case rel => exact ⟨_, (true), (by first | rfl | (simp; done) | (simp [*]; done)), H', ⟨by first | omega | exact Nat.le_refl _⟩, ⟨by repeat (first | (with_reducible first | exact HB.out | apply below_alloc | apply pw_below_drewN | apply below_drew1) | exact HB.out)⟩⟩
          · rw [if_neg c12] at H
            have c12b0 : decide (a0 < t120) = false := decide_eq_false c12
            clear c12
            (first | rw [c12b0] | (simp only [i64_w, i32_w]; rw [c12b0]) | skip)
            by_cases c13 : (IntKind.u64.wrap (a0 - t120)) ≥ a1
            · rw [if_pos c13] at H
              have c13b0 : decide (a1 ≤ (IntKind.u64.wrap (a0 - t120))) = true := decide_eq_true c13
              clear c13
              have H' := Aside0.mk H
              clear H
              go_wp2
              go_meet
              case rel => exact ⟨_, (true), (by first | rfl | (simp; done) | (simp [*]; done)), H', ⟨by first | omega | exact Nat.le_refl _⟩, ⟨by repeat (first | (with_reducible first | exact HB.out | apply below_alloc | apply pw_below_drewN | apply below_drew1) | exact HB.out)⟩⟩
            · rw [if_neg c13] at H
              have c13b0 : decide (a1 ≤ (IntKind.u64.wrap (a0 - t120))) = false := decide_eq_false c13
              clear c13
              have H' := Aside0.mk H
              clear H
              go_wp2
              go_meet
              case rel => exact ⟨_, (((Go.bits .and .u64 t120 (IntKind.u64.wrap (a1 - 1))) != 0)), (by first | rfl | (simp; done) | (simp [*]; done)), H', ⟨by first | omega | exact Nat.le_refl _⟩, ⟨by repeat (first | (with_reducible first | exact HB.out | apply below_alloc | apply pw_below_drewN | apply below_drew1) | exact HB.out)⟩⟩
        · replace c11 := Bool.eq_false_iff.mpr c11
          subst c11
          have H1 : (croftlaw1_BitsBetween.j0 k a0 a1 t120 t122 t123 true) = some r := by rw [if_neg (show ¬ (false = true) by decide)] at H; exact H
          clear H
          have H := H1
          clear H1
          have H' := Aside0.mk H
          clear H
          go_wp2
          go_meet
          case rel => exact ⟨_, (true), (by first | rfl | (simp; done) | (simp [*]; done)), H', ⟨by first | omega | exact Nat.le_refl _⟩, ⟨by repeat (first | (with_reducible first | exact HB.out | apply below_alloc | apply pw_below_drewN | apply below_drew1) | exact HB.out)⟩⟩
      case rest =>
        clear HC9
        try clear c1
        try clear p2
        try clear c3
        try clear c4
        try clear c7
        try clear c8
        try clear c11
        try clear c12
        try clear c12b0
        try clear c13
        try clear c13b0
        obtain ⟨kq, x60_8, rfl, HA, HJ8, HB⟩ := hcut
        cases kq with
        | zero => exact absurd HA.out (by simp [croftlaw1_BitsBetween.j0])
        | succ kj8 =>
          have H := HA.out
          clear HA
          simp only [croftlaw1_BitsBetween.j0] at H
          by_cases c14 : x60_8 = true
          · subst c14
            have H1 : (some false) = some r := by rw [if_pos rfl] at H; exact H
            clear H
            have H := H1
            clear H1
            obtain rfl := Option.some.inj H
            go_wp2
            go_ret
            exact ⟨by first | rfl | (simp [errW_none, errW_some] <;> rfl) | (simp [*, errW_none, errW_some] <;> rfl), by repeat (first | (with_reducible first | exact HB.out | apply below_alloc | apply pw_below_drewN | apply below_drew1) | exact HB.out)⟩
          · replace c14 := Bool.eq_false_iff.mpr c14
            subst c14
            have H1 : (if t123 = true then (if t122 ≥ a0 then (if (IntKind.u64.wrap (t122 - a0)) < a1 then (if (Go.bits .and .u64 t122 (IntKind.u64.wrap (a1 - 1))) = 0 then (some ((t122 == t120) == (t120 == a0))) else (some false)) else (some false)) else (some false)) else (if t122 = 0 then (if t120 = a0 then (some false) else (some ((IntKind.u64.wrap (t120 + a1)) == 0))) else (some false))) = some r := by rw [if_neg (show ¬ (false = true) by decide)] at H; exact H
            clear H
            have H := H1
            clear H1
            by_cases c15 : t123 = true
            · subst c15
              have H1 : (if t122 ≥ a0 then (if (IntKind.u64.wrap (t122 - a0)) < a1 then (if (Go.bits .and .u64 t122 (IntKind.u64.wrap (a1 - 1))) = 0 then (some ((t122 == t120) == (t120 == a0))) else (some false)) else (some false)) else (some false)) = some r := by rw [if_pos rfl] at H; exact H
              clear H
              have H := H1
              clear H1
              by_cases c16 : t122 ≥ a0
              · rw [if_pos c16] at H
                have c16b0 : decide (a0 ≤ t122) = true := decide_eq_true c16
                clear c16
                by_cases c17 : (IntKind.u64.wrap (t122 - a0)) < a1
                · rw [if_pos c17] at H
                  have c17b0 : decide ((IntKind.u64.wrap (t122 - a0)) < a1) = true := decide_eq_true c17
                  clear c17
                  by_cases c18 : (Go.bits .and .u64 t122 (IntKind.u64.wrap (a1 - 1))) = 0
                  · rw [if_pos c18] at H
                    have c18b0 : ((Go.bits .and .u64 t122 (IntKind.u64.wrap (a1 - 1))) == 0) = true := beq_iff_eq.mpr c18
                    have c18b1 : ((Go.bits .and .u64 t122 (IntKind.u64.wrap (a1 - 1))) != 0) = false := bne_eq_false_iff_eq.mpr c18
                    clear c18
                    obtain rfl := Option.some.inj H
                    go_wp2
                    go_ret
                    exact ⟨by first | rfl | (simp [errW_none, errW_some] <;> rfl) | (simp [*, errW_none, errW_some] <;> rfl), by repeat (first | (with_reducible first | exact HB.out | apply below_alloc | apply pw_below_drewN | apply below_drew1) | exact HB.out)⟩
                  · rw [if_neg c18] at H
                    have c18b0 : ((Go.bits .and .u64 t122 (IntKind.u64.wrap (a1 - 1))) == 0) = false := beq_eq_false_iff_ne.mpr c18
                    have c18b1 : ((Go.bits .and .u64 t122 (IntKind.u64.wrap (a1 - 1))) != 0) = true := bne_iff_ne.mpr c18
                    obtain rfl := Option.some.inj H
                    go_wp2
                    go_ret
                    exact ⟨by first | rfl | (simp [errW_none, errW_some] <;> rfl) | (simp [*, errW_none, errW_some] <;> rfl), by repeat (first | (with_reducible first | exact HB.out | apply below_alloc | apply pw_below_drewN | apply below_drew1) | exact HB.out)⟩
                · rw [if_neg c17] at H
                  have c17b0 : decide ((IntKind.u64.wrap (t122 - a0)) < a1) = false := decide_eq_false c17
                  clear c17
                  obtain rfl := Option.some.inj H
                  go_wp2
                  go_ret
                  exact ⟨by first | rfl | (simp [errW_none, errW_some] <;> rfl) | (simp [*, errW_none, errW_some] <;> rfl), by repeat (first | (with_reducible first | exact HB.out | apply below_alloc | apply pw_below_drewN | apply below_drew1) | exact HB.out)⟩
              · rw [if_neg c16] at H
                have c16b0 : decide (a0 ≤ t122) = false := decide_eq_false c16
                clear c16
                obtain rfl := Option.some.inj H
                go_wp2
                go_ret
                exact ⟨by first | rfl | (simp [errW_none, errW_some] <;> rfl) | (simp [*, errW_none, errW_some] <;> rfl), by repeat (first | (with_reducible first | exact HB.out | apply below_alloc | apply pw_below_drewN | apply below_drew1) | exact HB.out)⟩
            · replace c15 := Bool.eq_false_iff.mpr c15
              subst c15
              have H1 : (if t122 = 0 then (if t120 = a0 then (some false) else (some ((IntKind.u64.wrap (t120 + a1)) == 0))) else (some false)) = some r := by rw [if_neg (show ¬ (false = true) by decide)] at H; exact H
              clear H
              have H := H1
              clear H1
              by_cases c19 : t122 = 0
              · rw [if_pos c19] at H
                have c19b0 : (t122 == 0) = true := beq_iff_eq.mpr c19
                have c19b1 : (t122 != 0) = false := bne_eq_false_iff_eq.mpr c19
                clear c19
                by_cases c20 : t120 = a0
                · rw [if_pos c20] at H
                  have c20b0 : (t120 == a0) = true := beq_iff_eq.mpr c20
                  have c20b1 : (t120 != a0) = false := bne_eq_false_iff_eq.mpr c20
                  clear c20
                  obtain rfl := Option.some.inj H
                  go_wp2
                  go_ret
                  exact ⟨by first | rfl | (simp [errW_none, errW_some] <;> rfl) | (simp [*, errW_none, errW_some] <;> rfl), by repeat (first | (with_reducible first | exact HB.out | apply below_alloc | apply pw_below_drewN | apply below_drew1) | exact HB.out)⟩
                · rw [if_neg c20] at H
                  have c20b0 : (t120 == a0) = false := beq_eq_false_iff_ne.mpr c20
                  have c20b1 : (t120 != a0) = true := bne_iff_ne.mpr c20
                  obtain rfl := Option.some.inj H
                  go_wp2
                  go_ret
                  exact ⟨by first | rfl | (simp [errW_none, errW_some] <;> rfl) | (simp [*, errW_none, errW_some] <;> rfl), by repeat (first | (with_reducible first | exact HB.out | apply below_alloc | apply pw_below_drewN | apply below_drew1) | exact HB.out)⟩
              · rw [if_neg c19] at H
                have c19b0 : (t122 == 0) = false := beq_eq_false_iff_ne.mpr c19
                have c19b1 : (t122 != 0) = true := bne_iff_ne.mpr c19
                obtain rfl := Option.some.inj H
                go_wp2
                go_ret
                exact ⟨by first | rfl | (simp [errW_none, errW_some] <;> rfl) | (simp [*, errW_none, errW_some] <;> rfl), by repeat (first | (with_reducible first | exact HB.out | apply below_alloc | apply pw_below_drewN | apply below_drew1) | exact HB.out)⟩
    · replace c8 := Bool.eq_false_iff.mpr c8
      subst c8
      have H1 : (if t121 = true then (some false) else (if t123 = true then (some false) else (if t120 = 0 then (some (t122 == 0)) else (some false)))) = some r := by rw [if_neg (show ¬ (false = true) by decide)] at H; exact H
      clear H
      have H := H1
      clear H1
      by_cases c21 : t121 = true
      · subst c21
        have H1 : (some false) = some r := by rw [if_pos rfl] at H; exact H
        clear H
        have H := H1
        clear H1
        obtain rfl := Option.some.inj H
        go_enter Try.func7, Try.ntmps7
        go_wp2_with (first | ((with_reducible refine gate_callee (f := 16) rfl ?_); refine goesL_ (some 9) rfl rfl Try.func16 (by kernel_rfl) rfl #[] rfl (by (try simp only [List.map_toArray, List.map_cons, List.map_nil]); first | done | rfl | (simp only [List.length_drop, List.length_take]; rfl)) ?_; (with_reducible refine (croftlaw1_awake.calls  true _ A3.out).mono ?_); rintro e w22 ⟨rfl, hb⟩; refine ⟨_, rfl, ?_⟩; have n0_ := Aside0.mk (below_step (by repeat (first | (with_reducible first | exact HB.out | apply below_alloc | apply pw_below_drewN | apply below_drew1) | exact HB.out)) hb); clear HB; have HB := n0_; clear n0_; (try clear hb); (try clear hb2); (try clear hk); (try clear hi)) | ((with_reducible refine gate_callee (f := 31) rfl ?_); refine goesL_ (some 14) rfl rfl Try.func31 (by kernel_rfl) rfl #[.int .u64 a0, .int .u64 a1] rfl (by (try simp only [List.map_toArray, List.map_cons, List.map_nil]); first | done | rfl | (simp only [List.length_drop, List.length_take]; rfl)) ?_; (with_reducible refine (bits_Down_uint64.calls a0 a1 t120 true _ A5.out).mono ?_); rintro e w' ⟨rfl, ⟨nd, rfl⟩⟩; refine ⟨_, rfl, ?_⟩) | ((with_reducible refine gate_callee (f := 32) rfl ?_); refine goesL_ (some 20) rfl rfl Try.func32 (by kernel_rfl) rfl #[.int .u64 a0, .int .u64 a1] rfl (by (try simp only [List.map_toArray, List.map_cons, List.map_nil]); first | done | rfl | (simp only [List.length_drop, List.length_take]; rfl)) ?_; (with_reducible refine (bits_Up_uint64.calls k a0 a1 t122 t123 _ A6.out).mono ?_); rintro e w' ⟨rfl, ⟨nd, rfl⟩⟩; refine ⟨_, rfl, ?_⟩) | ((with_reducible refine gate_callee (f := 33) rfl ?_); refine goesL_ (some 24) rfl rfl Try.func33 (by kernel_rfl) rfl #[.int .u64 a1] rfl (by (try simp only [List.map_toArray, List.map_cons, List.map_nil]); first | done | rfl | (simp only [List.length_drop, List.length_take]; rfl)) ?_; (with_reducible refine (bits_IsPower_uint64.calls a1 false _ A7.out).mono ?_); rintro e w' ⟨rfl, ⟨nd, rfl⟩⟩; refine ⟨_, rfl, ?_⟩))
        go_ret
        exact ⟨by first | rfl | (simp [errW_none, errW_some] <;> rfl) | (simp [*, errW_none, errW_some] <;> rfl), by repeat (first | (with_reducible first | exact HB.out | apply below_alloc | apply pw_below_drewN | apply below_drew1) | exact HB.out)⟩
      · replace c21 := Bool.eq_false_iff.mpr c21
        subst c21
        have H1 : (if t123 = true then (some false) else (if t120 = 0 then (some (t122 == 0)) else (some false))) = some r := by rw [if_neg (show ¬ (false = true) by decide)] at H; exact H
        clear H
        have H := H1
        clear H1
        by_cases c23 : t123 = true
        · subst c23
          have H1 : (some false) = some r := by rw [if_pos rfl] at H; exact H
          clear H
          have H := H1
          clear H1
          obtain rfl := Option.some.inj H
          go_enter Try.func7, Try.ntmps7
          go_wp2_with (first | ((with_reducible refine gate_callee (f := 16) rfl ?_); refine goesL_ (some 9) rfl rfl Try.func16 (by kernel_rfl) rfl #[] rfl (by (try simp only [List.map_toArray, List.map_cons, List.map_nil]); first | done | rfl | (simp only [List.length_drop, List.length_take]; rfl)) ?_; (with_reducible refine (croftlaw1_awake.calls  true _ A3.out).mono ?_); rintro e w24 ⟨rfl, hb⟩; refine ⟨_, rfl, ?_⟩; have n0_ := Aside0.mk (below_step (by repeat (first | (with_reducible first | exact HB.out | apply below_alloc | apply pw_below_drewN | apply below_drew1) | exact HB.out)) hb); clear HB; have HB := n0_; clear n0_; (try clear hb); (try clear hb2); (try clear hk); (try clear hi)) | ((with_reducible refine gate_callee (f := 31) rfl ?_); refine goesL_ (some 14) rfl rfl Try.func31 (by kernel_rfl) rfl #[.int .u64 a0, .int .u64 a1] rfl (by (try simp only [List.map_toArray, List.map_cons, List.map_nil]); first | done | rfl | (simp only [List.length_drop, List.length_take]; rfl)) ?_; (with_reducible refine (bits_Down_uint64.calls a0 a1 t120 false _ A5.out).mono ?_); rintro e w' ⟨rfl, ⟨nd, rfl⟩⟩; refine ⟨_, rfl, ?_⟩) | ((with_reducible refine gate_callee (f := 32) rfl ?_); refine goesL_ (some 20) rfl rfl Try.func32 (by kernel_rfl) rfl #[.int .u64 a0, .int .u64 a1] rfl (by (try simp only [List.map_toArray, List.map_cons, List.map_nil]); first | done | rfl | (simp only [List.length_drop, List.length_take]; rfl)) ?_; (with_reducible refine (bits_Up_uint64.calls k a0 a1 t122 true _ A6.out).mono ?_); rintro e w' ⟨rfl, ⟨nd, rfl⟩⟩; refine ⟨_, rfl, ?_⟩) | ((with_reducible refine gate_callee (f := 33) rfl ?_); refine goesL_ (some 24) rfl rfl Try.func33 (by kernel_rfl) rfl #[.int .u64 a1] rfl (by (try simp only [List.map_toArray, List.map_cons, List.map_nil]); first | done | rfl | (simp only [List.length_drop, List.length_take]; rfl)) ?_; (with_reducible refine (bits_IsPower_uint64.calls a1 false _ A7.out).mono ?_); rintro e w' ⟨rfl, ⟨nd, rfl⟩⟩; refine ⟨_, rfl, ?_⟩))
          go_ret
          exact ⟨by first | rfl | (simp [errW_none, errW_some] <;> rfl) | (simp [*, errW_none, errW_some] <;> rfl), by repeat (first | (with_reducible first | exact HB.out | apply below_alloc | apply pw_below_drewN | apply below_drew1) | exact HB.out)⟩
        · replace c23 := Bool.eq_false_iff.mpr c23
          subst c23
          have H1 : (if t120 = 0 then (some (t122 == 0)) else (some false)) = some r := by rw [if_neg (show ¬ (false = true) by decide)] at H; exact H
          clear H
          have H := H1
          clear H1
          by_cases c25 : t120 = 0
          · rw [if_pos c25] at H
            have c25b0 : (t120 == 0) = true := beq_iff_eq.mpr c25
            have c25b1 : (t120 != 0) = false := bne_eq_false_iff_eq.mpr c25
            clear c25
            obtain rfl := Option.some.inj H
            go_enter Try.func7, Try.ntmps7
            go_wp2_with (first | ((with_reducible refine gate_callee (f := 16) rfl ?_); refine goesL_ (some 9) rfl rfl Try.func16 (by kernel_rfl) rfl #[] rfl (by (try simp only [List.map_toArray, List.map_cons, List.map_nil]); first | done | rfl | (simp only [List.length_drop, List.length_take]; rfl)) ?_; (with_reducible refine (croftlaw1_awake.calls  true _ A3.out).mono ?_); rintro e w26 ⟨rfl, hb⟩; refine ⟨_, rfl, ?_⟩; have n0_ := Aside0.mk (below_step (by repeat (first | (with_reducible first | exact HB.out | apply below_alloc | apply pw_below_drewN | apply below_drew1) | exact HB.out)) hb); clear HB; have HB := n0_; clear n0_; (try clear hb); (try clear hb2); (try clear hk); (try clear hi)) | ((with_reducible refine gate_callee (f := 31) rfl ?_); refine goesL_ (some 14) rfl rfl Try.func31 (by kernel_rfl) rfl #[.int .u64 a0, .int .u64 a1] rfl (by (try simp only [List.map_toArray, List.map_cons, List.map_nil]); first | done | rfl | (simp only [List.length_drop, List.length_take]; rfl)) ?_; (with_reducible refine (bits_Down_uint64.calls a0 a1 t120 false _ A5.out).mono ?_); rintro e w' ⟨rfl, ⟨nd, rfl⟩⟩; refine ⟨_, rfl, ?_⟩) | ((with_reducible refine gate_callee (f := 32) rfl ?_); refine goesL_ (some 20) rfl rfl Try.func32 (by kernel_rfl) rfl #[.int .u64 a0, .int .u64 a1] rfl (by (try simp only [List.map_toArray, List.map_cons, List.map_nil]); first | done | rfl | (simp only [List.length_drop, List.length_take]; rfl)) ?_; (with_reducible refine (bits_Up_uint64.calls k a0 a1 t122 false _ A6.out).mono ?_); rintro e w' ⟨rfl, ⟨nd, rfl⟩⟩; refine ⟨_, rfl, ?_⟩) | ((with_reducible refine gate_callee (f := 33) rfl ?_); refine goesL_ (some 24) rfl rfl Try.func33 (by kernel_rfl) rfl #[.int .u64 a1] rfl (by (try simp only [List.map_toArray, List.map_cons, List.map_nil]); first | done | rfl | (simp only [List.length_drop, List.length_take]; rfl)) ?_; (with_reducible refine (bits_IsPower_uint64.calls a1 false _ A7.out).mono ?_); rintro e w' ⟨rfl, ⟨nd, rfl⟩⟩; refine ⟨_, rfl, ?_⟩))
            go_ret
            exact ⟨by first | rfl | (simp [errW_none, errW_some] <;> rfl) | (simp [*, errW_none, errW_some] <;> rfl), by repeat (first | (with_reducible first | exact HB.out | apply below_alloc | apply pw_below_drewN | apply below_drew1) | exact HB.out)⟩
          · rw [if_neg c25] at H
            have c25b0 : (t120 == 0) = false := beq_eq_false_iff_ne.mpr c25
            have c25b1 : (t120 != 0) = true := bne_iff_ne.mpr c25
            obtain rfl := Option.some.inj H
            go_enter Try.func7, Try.ntmps7
            go_wp2_with (first | ((with_reducible refine gate_callee (f := 16) rfl ?_); refine goesL_ (some 9) rfl rfl Try.func16 (by kernel_rfl) rfl #[] rfl (by (try simp only [List.map_toArray, List.map_cons, List.map_nil]); first | done | rfl | (simp only [List.length_drop, List.length_take]; rfl)) ?_; (with_reducible refine (croftlaw1_awake.calls  true _ A3.out).mono ?_); rintro e w27 ⟨rfl, hb⟩; refine ⟨_, rfl, ?_⟩; have n0_ := Aside0.mk (below_step (by repeat (first | (with_reducible first | exact HB.out | apply below_alloc | apply pw_below_drewN | apply below_drew1) | exact HB.out)) hb); clear HB; have HB := n0_; clear n0_; (try clear hb); (try clear hb2); (try clear hk); (try clear hi)) | ((with_reducible refine gate_callee (f := 31) rfl ?_); refine goesL_ (some 14) rfl rfl Try.func31 (by kernel_rfl) rfl #[.int .u64 a0, .int .u64 a1] rfl (by (try simp only [List.map_toArray, List.map_cons, List.map_nil]); first | done | rfl | (simp only [List.length_drop, List.length_take]; rfl)) ?_; (with_reducible refine (bits_Down_uint64.calls a0 a1 t120 false _ A5.out).mono ?_); rintro e w' ⟨rfl, ⟨nd, rfl⟩⟩; refine ⟨_, rfl, ?_⟩) | ((with_reducible refine gate_callee (f := 32) rfl ?_); refine goesL_ (some 20) rfl rfl Try.func32 (by kernel_rfl) rfl #[.int .u64 a0, .int .u64 a1] rfl (by (try simp only [List.map_toArray, List.map_cons, List.map_nil]); first | done | rfl | (simp only [List.length_drop, List.length_take]; rfl)) ?_; (with_reducible refine (bits_Up_uint64.calls k a0 a1 t122 false _ A6.out).mono ?_); rintro e w' ⟨rfl, ⟨nd, rfl⟩⟩; refine ⟨_, rfl, ?_⟩) | ((with_reducible refine gate_callee (f := 33) rfl ?_); refine goesL_ (some 24) rfl rfl Try.func33 (by kernel_rfl) rfl #[.int .u64 a1] rfl (by (try simp only [List.map_toArray, List.map_cons, List.map_nil]); first | done | rfl | (simp only [List.length_drop, List.length_take]; rfl)) ?_; (with_reducible refine (bits_IsPower_uint64.calls a1 false _ A7.out).mono ?_); rintro e w' ⟨rfl, ⟨nd, rfl⟩⟩; refine ⟨_, rfl, ?_⟩))
            go_ret
            exact ⟨by first | rfl | (simp [errW_none, errW_some] <;> rfl) | (simp [*, errW_none, errW_some] <;> rfl), by repeat (first | (with_reducible first | exact HB.out | apply below_alloc | apply pw_below_drewN | apply below_drew1) | exact HB.out)⟩
  · replace c4 := Bool.eq_false_iff.mpr c4
    subst c4
    have H1 : (some false) = some r := by rw [if_neg (show ¬ (false = true) by decide)] at H; exact H
    clear H
    have H := H1
    clear H1
    obtain rfl := Option.some.inj H
    go_enter Try.func7, Try.ntmps7
    go_wp2_with (first | ((with_reducible refine gate_callee (f := 16) rfl ?_); refine goesL_ (some 9) rfl rfl Try.func16 (by kernel_rfl) rfl #[] rfl (by (try simp only [List.map_toArray, List.map_cons, List.map_nil]); first | done | rfl | (simp only [List.length_drop, List.length_take]; rfl)) ?_; (with_reducible refine (croftlaw1_awake.calls  false _ A3.out).mono ?_); rintro e w28 ⟨rfl, hb⟩; refine ⟨_, rfl, ?_⟩; have n0_ := Aside0.mk (below_step (by repeat (first | (with_reducible first | exact HB.out | apply below_alloc | apply pw_below_drewN | apply below_drew1) | exact HB.out)) hb); clear HB; have HB := n0_; clear n0_; (try clear hb); (try clear hb2); (try clear hk); (try clear hi)))
    go_ret
    exact ⟨by first | rfl | (simp [errW_none, errW_some] <;> rfl) | (simp [*, errW_none, errW_some] <;> rfl), by repeat (first | (with_reducible first | exact HB.out | apply below_alloc | apply pw_below_drewN | apply below_drew1) | exact HB.out)⟩

/-- THE ONE PURE STATEMENT of croftlaw1_BitsBetween: yours. -/
def croftlaw1_BitsBetween.Pure : Prop := ∀ (a0 : Int) (a1 : Int), (Lit.int .u64 a0).wf = true → (Lit.int .u64 a1).wf = true → ∃ k, croftlaw1_BitsBetween.f k a0 a1 = some true
theorem croftlaw1_BitsBetween.walk (P : croftlaw1_BitsBetween.Pure) (a0 : Int) (a1 : Int) (w : World) (w0 : (Lit.int .u64 a0).wf = true) (w1 : (Lit.int .u64 a1).wf = true) :
    Calls Try.prog 7 #[.int .u64 a0, .int .u64 a1] w fun e w' => e = .returned (.bool true) ∧ Below w.heap.size w w' := by
  obtain ⟨k, h⟩ := P a0 a1 w0 w1
  refine (croftlaw1_BitsBetween.calls k a0 a1 true w h).mono ?_
  rintro e w' ⟨rfl, hd⟩
  exact ⟨rfl, hd⟩


end Go.Proofs.Ytccpoflhmooanaa.R
