-- PRINTED BY print.sh 35421559b90ae4d0a3588c463048766b98c2df88dd9212a6774a882060cdf62d: not written by this session
import Derived.Test.YtccpoflhmooanaaPBitsMultiplesx0
import Derived.Test.YtccpoflhmooanaaPBitsMultiplesx1
import Derived.Test.YtccpoflhmooanaaPBitsMultiplesx2
import Derived.Test.YtccpoflhmooanaaPBitsMultiplesx3
namespace Go.Proofs.Ytccpoflhmooanaa.PBitsMultiples
open Go.RowKit Go.Proofs.YtccpoflhmooanaaW.PrintWords Go.Proofs.YtccpoflhmooanaaW.PrintLast Go.Proofs.YtccpoflhmooanaaW.PrintMore
attribute [local go_sem] max2_int min2_int max_two min_two max_three min_three max_four min_four   -- for this text's walks alone
set_option linter.unusedVariables false
set_option linter.unusedSimpArgs false

/-! ### croftlaw1_BitsMultiples: function 3 -/
def croftlaw1_BitsMultiples.f (k : Nat) (a0 : Int) (a1 : Int) : Option (Bool) := (croftlaw1_multiples_uint8.f k a0 a1 8).bind fun t184 => (if t184 = true then ((croftlaw1_multiples_uint16.f k a0 a1 16).bind fun t185 => (if t185 = true then ((croftlaw1_multiples_uint32.f k a0 a1 32).bind fun t186 => (if t186 = true then ((croftlaw1_multiples_uint64.f k a0 a1 64).bind fun t187 => (if t187 = true then ((croftlaw1_small_14.f k a0 a1 8).bind fun t188 => (if t188 = true then ((croftlaw1_wide_15.f k a0 a1 64).bind fun t189 => (some t189)) else (some false))) else (some false))) else (some false))) else (some false))) else (some false))
theorem croftlaw1_BitsMultiples.mono : ∀ a0 a1 k, LeO (croftlaw1_BitsMultiples.f k a0 a1) (croftlaw1_BitsMultiples.f (k + 1) a0 a1) := by
  intro a0 a1 k
  unfold croftlaw1_BitsMultiples.f
  repeat' first
      | (with_reducible exact croftlaw1_multiples_uint16.mono _ _ _ _)
      | (with_reducible exact croftlaw1_multiples_uint32.mono _ _ _ _)
      | (with_reducible exact croftlaw1_multiples_uint64.mono _ _ _ _)
      | (with_reducible exact croftlaw1_multiples_uint8.mono _ _ _ _)
      | (with_reducible exact croftlaw1_small_14.mono _ _ _ _)
      | (with_reducible exact croftlaw1_wide_15.mono _ _ _ _)
      | (with_reducible exact LeO.refl _)
      | (with_reducible exact LeO.none _)
      | (with_reducible refine LeO.ite ?_ ?_)
      | (with_reducible refine LeO.bind ?_ (fun _ => ?_))
      | exact croftlaw1_multiples_uint16.mono _ _ _ _
      | exact croftlaw1_multiples_uint32.mono _ _ _ _
      | exact croftlaw1_multiples_uint64.mono _ _ _ _
      | exact croftlaw1_multiples_uint8.mono _ _ _ _
      | exact croftlaw1_small_14.mono _ _ _ _
      | exact croftlaw1_wide_15.mono _ _ _ _
      | exact LeO.none _
      | refine LeO.ite ?_ ?_
      | refine LeO.bind ?_ (fun _ => ?_)
set_option maxHeartbeats 8000000 in
set_option maxRecDepth 100000 in
theorem croftlaw1_BitsMultiples.calls (k : Nat) (a0 : Int) (a1 : Int) (r : Bool) (w : World) (h : croftlaw1_BitsMultiples.f k a0 a1 = some r) :
    Calls Try.prog 3 #[.int .u64 a0, .int .u64 a1] w fun e w' => e = .returned (.bool r) ∧ Drawn0 w w' := by
  have H : ((croftlaw1_multiples_uint8.f k a0 a1 8).bind fun t184 => (if t184 = true then ((croftlaw1_multiples_uint16.f k a0 a1 16).bind fun t185 => (if t185 = true then ((croftlaw1_multiples_uint32.f k a0 a1 32).bind fun t186 => (if t186 = true then ((croftlaw1_multiples_uint64.f k a0 a1 64).bind fun t187 => (if t187 = true then ((croftlaw1_small_14.f k a0 a1 8).bind fun t188 => (if t188 = true then ((croftlaw1_wide_15.f k a0 a1 64).bind fun t189 => (some t189)) else (some false))) else (some false))) else (some false))) else (some false))) else (some false))) = some r := h
  clear h
  replace H := Option.bind_eq_some_iff.mp H
  obtain ⟨t184, A30, H⟩ := H
  replace H : (if t184 = true then ((croftlaw1_multiples_uint16.f k a0 a1 16).bind fun t185 => (if t185 = true then ((croftlaw1_multiples_uint32.f k a0 a1 32).bind fun t186 => (if t186 = true then ((croftlaw1_multiples_uint64.f k a0 a1 64).bind fun t187 => (if t187 = true then ((croftlaw1_small_14.f k a0 a1 8).bind fun t188 => (if t188 = true then ((croftlaw1_wide_15.f k a0 a1 64).bind fun t189 => (some t189)) else (some false))) else (some false))) else (some false))) else (some false))) else (some false)) = some r := H
  have A3 := Aside0.mk A30
  clear A30
  by_cases c4 : t184 = true
  · subst c4
    have H1 : ((croftlaw1_multiples_uint16.f k a0 a1 16).bind fun t185 => (if t185 = true then ((croftlaw1_multiples_uint32.f k a0 a1 32).bind fun t186 => (if t186 = true then ((croftlaw1_multiples_uint64.f k a0 a1 64).bind fun t187 => (if t187 = true then ((croftlaw1_small_14.f k a0 a1 8).bind fun t188 => (if t188 = true then ((croftlaw1_wide_15.f k a0 a1 64).bind fun t189 => (some t189)) else (some false))) else (some false))) else (some false))) else (some false))) = some r := by rw [if_pos rfl] at H; exact H
    clear H
    have H := H1
    clear H1
    replace H := Option.bind_eq_some_iff.mp H
    obtain ⟨t185, A50, H⟩ := H
    replace H : (if t185 = true then ((croftlaw1_multiples_uint32.f k a0 a1 32).bind fun t186 => (if t186 = true then ((croftlaw1_multiples_uint64.f k a0 a1 64).bind fun t187 => (if t187 = true then ((croftlaw1_small_14.f k a0 a1 8).bind fun t188 => (if t188 = true then ((croftlaw1_wide_15.f k a0 a1 64).bind fun t189 => (some t189)) else (some false))) else (some false))) else (some false))) else (some false)) = some r := H
    have A5 := Aside0.mk A50
    clear A50
    by_cases c6 : t185 = true
    · subst c6
      have H1 : ((croftlaw1_multiples_uint32.f k a0 a1 32).bind fun t186 => (if t186 = true then ((croftlaw1_multiples_uint64.f k a0 a1 64).bind fun t187 => (if t187 = true then ((croftlaw1_small_14.f k a0 a1 8).bind fun t188 => (if t188 = true then ((croftlaw1_wide_15.f k a0 a1 64).bind fun t189 => (some t189)) else (some false))) else (some false))) else (some false))) = some r := by rw [if_pos rfl] at H; exact H
      clear H
      have H := H1
      clear H1
      replace H := Option.bind_eq_some_iff.mp H
      obtain ⟨t186, A70, H⟩ := H
      replace H : (if t186 = true then ((croftlaw1_multiples_uint64.f k a0 a1 64).bind fun t187 => (if t187 = true then ((croftlaw1_small_14.f k a0 a1 8).bind fun t188 => (if t188 = true then ((croftlaw1_wide_15.f k a0 a1 64).bind fun t189 => (some t189)) else (some false))) else (some false))) else (some false)) = some r := H
      have A7 := Aside0.mk A70
      clear A70
      by_cases c8 : t186 = true
      · subst c8
        have H1 : ((croftlaw1_multiples_uint64.f k a0 a1 64).bind fun t187 => (if t187 = true then ((croftlaw1_small_14.f k a0 a1 8).bind fun t188 => (if t188 = true then ((croftlaw1_wide_15.f k a0 a1 64).bind fun t189 => (some t189)) else (some false))) else (some false))) = some r := by rw [if_pos rfl] at H; exact H
        clear H
        have H := H1
        clear H1
        replace H := Option.bind_eq_some_iff.mp H
        obtain ⟨t187, A90, H⟩ := H
        replace H : (if t187 = true then ((croftlaw1_small_14.f k a0 a1 8).bind fun t188 => (if t188 = true then ((croftlaw1_wide_15.f k a0 a1 64).bind fun t189 => (some t189)) else (some false))) else (some false)) = some r := H
        have A9 := Aside0.mk A90
        clear A90
        by_cases c10 : t187 = true
        · subst c10
          have H1 : ((croftlaw1_small_14.f k a0 a1 8).bind fun t188 => (if t188 = true then ((croftlaw1_wide_15.f k a0 a1 64).bind fun t189 => (some t189)) else (some false))) = some r := by rw [if_pos rfl] at H; exact H
          clear H
          have H := H1
          clear H1
          replace H := Option.bind_eq_some_iff.mp H
          obtain ⟨t188, A110, H⟩ := H
          replace H : (if t188 = true then ((croftlaw1_wide_15.f k a0 a1 64).bind fun t189 => (some t189)) else (some false)) = some r := H
          have A11 := Aside0.mk A110
          clear A110
          by_cases c12 : t188 = true
          · subst c12
            have H1 : ((croftlaw1_wide_15.f k a0 a1 64).bind fun t189 => (some t189)) = some r := by rw [if_pos rfl] at H; exact H
            clear H
            have H := H1
            clear H1
            replace H := Option.bind_eq_some_iff.mp H
            obtain ⟨t189, A130, H⟩ := H
            replace H : (some t189) = some r := H
            have A13 := Aside0.mk A130
            clear A130
            obtain rfl := Option.some.inj H
            go_enter Try.func3, Try.ntmps3
            go_wp2_with (first | ((with_reducible refine gate_callee (f := 10) rfl ?_); refine goesL_ (some 7) rfl rfl Try.func10 (by kernel_rfl) rfl #[.int .u64 a0, .int .u64 a1, .int .i64 8] rfl (by (try simp only [List.map_toArray, List.map_cons, List.map_nil]); first | done | rfl | (simp only [List.length_drop, List.length_take]; rfl)) ?_; (with_reducible refine (croftlaw1_multiples_uint8.calls k a0 a1 8 true _ A3.out).mono ?_); rintro e w' ⟨rfl, ⟨nd, rfl⟩⟩; refine ⟨_, rfl, ?_⟩) | (go_at_call 11; (with_reducible refine (croftlaw1_multiples_uint16.calls k a0 a1 16 true _ A5.out).mono ?_); rintro e w' ⟨rfl, ⟨nd, rfl⟩⟩) | (go_at_call 12; (with_reducible refine (croftlaw1_multiples_uint32.calls k a0 a1 32 true _ A7.out).mono ?_); rintro e w' ⟨rfl, ⟨nd, rfl⟩⟩) | (go_at_call 13; (with_reducible refine (croftlaw1_multiples_uint64.calls k a0 a1 64 true _ A9.out).mono ?_); rintro e w' ⟨rfl, ⟨nd, rfl⟩⟩) | (go_at_call 14; (with_reducible refine (croftlaw1_small_14.calls k a0 a1 8 true _ A11.out).mono ?_); rintro e w' ⟨rfl, ⟨nd, rfl⟩⟩) | (go_at_call 15; (with_reducible refine (croftlaw1_wide_15.calls k a0 a1 64 t189 _ A13.out).mono ?_); rintro e w' ⟨rfl, ⟨nd, rfl⟩⟩))
            go_ret
            exact ⟨by first | rfl | (simp; done) | (simp [*]; done), by repeat (first | exact Drawn0.refl _ | apply Drawn0.step)⟩
          · replace c12 := Bool.eq_false_iff.mpr c12
            subst c12
            have H1 : (some false) = some r := by rw [if_neg (show ¬ (false = true) by decide)] at H; exact H
            clear H
            have H := H1
            clear H1
            obtain rfl := Option.some.inj H
            go_enter Try.func3, Try.ntmps3
            go_wp2_with (first | ((with_reducible refine gate_callee (f := 10) rfl ?_); refine goesL_ (some 7) rfl rfl Try.func10 (by kernel_rfl) rfl #[.int .u64 a0, .int .u64 a1, .int .i64 8] rfl (by (try simp only [List.map_toArray, List.map_cons, List.map_nil]); first | done | rfl | (simp only [List.length_drop, List.length_take]; rfl)) ?_; (with_reducible refine (croftlaw1_multiples_uint8.calls k a0 a1 8 true _ A3.out).mono ?_); rintro e w' ⟨rfl, ⟨nd, rfl⟩⟩; refine ⟨_, rfl, ?_⟩) | (go_at_call 11; (with_reducible refine (croftlaw1_multiples_uint16.calls k a0 a1 16 true _ A5.out).mono ?_); rintro e w' ⟨rfl, ⟨nd, rfl⟩⟩) | (go_at_call 12; (with_reducible refine (croftlaw1_multiples_uint32.calls k a0 a1 32 true _ A7.out).mono ?_); rintro e w' ⟨rfl, ⟨nd, rfl⟩⟩) | (go_at_call 13; (with_reducible refine (croftlaw1_multiples_uint64.calls k a0 a1 64 true _ A9.out).mono ?_); rintro e w' ⟨rfl, ⟨nd, rfl⟩⟩) | (go_at_call 14; (with_reducible refine (croftlaw1_small_14.calls k a0 a1 8 false _ A11.out).mono ?_); rintro e w' ⟨rfl, ⟨nd, rfl⟩⟩))
            go_ret
            exact ⟨by first | rfl | (simp; done) | (simp [*]; done), by repeat (first | exact Drawn0.refl _ | apply Drawn0.step)⟩
        · replace c10 := Bool.eq_false_iff.mpr c10
          subst c10
          have H1 : (some false) = some r := by rw [if_neg (show ¬ (false = true) by decide)] at H; exact H
          clear H
          have H := H1
          clear H1
          obtain rfl := Option.some.inj H
          go_enter Try.func3, Try.ntmps3
          go_wp2_with (first | ((with_reducible refine gate_callee (f := 10) rfl ?_); refine goesL_ (some 7) rfl rfl Try.func10 (by kernel_rfl) rfl #[.int .u64 a0, .int .u64 a1, .int .i64 8] rfl (by (try simp only [List.map_toArray, List.map_cons, List.map_nil]); first | done | rfl | (simp only [List.length_drop, List.length_take]; rfl)) ?_; (with_reducible refine (croftlaw1_multiples_uint8.calls k a0 a1 8 true _ A3.out).mono ?_); rintro e w' ⟨rfl, ⟨nd, rfl⟩⟩; refine ⟨_, rfl, ?_⟩) | (go_at_call 11; (with_reducible refine (croftlaw1_multiples_uint16.calls k a0 a1 16 true _ A5.out).mono ?_); rintro e w' ⟨rfl, ⟨nd, rfl⟩⟩) | (go_at_call 12; (with_reducible refine (croftlaw1_multiples_uint32.calls k a0 a1 32 true _ A7.out).mono ?_); rintro e w' ⟨rfl, ⟨nd, rfl⟩⟩) | (go_at_call 13; (with_reducible refine (croftlaw1_multiples_uint64.calls k a0 a1 64 false _ A9.out).mono ?_); rintro e w' ⟨rfl, ⟨nd, rfl⟩⟩))
          go_ret
          exact ⟨by first | rfl | (simp; done) | (simp [*]; done), by repeat (first | exact Drawn0.refl _ | apply Drawn0.step)⟩
      · replace c8 := Bool.eq_false_iff.mpr c8
        subst c8
        have H1 : (some false) = some r := by rw [if_neg (show ¬ (false = true) by decide)] at H; exact H
        clear H
        have H := H1
        clear H1
        obtain rfl := Option.some.inj H
        go_enter Try.func3, Try.ntmps3
        go_wp2_with (first | ((with_reducible refine gate_callee (f := 10) rfl ?_); refine goesL_ (some 7) rfl rfl Try.func10 (by kernel_rfl) rfl #[.int .u64 a0, .int .u64 a1, .int .i64 8] rfl (by (try simp only [List.map_toArray, List.map_cons, List.map_nil]); first | done | rfl | (simp only [List.length_drop, List.length_take]; rfl)) ?_; (with_reducible refine (croftlaw1_multiples_uint8.calls k a0 a1 8 true _ A3.out).mono ?_); rintro e w' ⟨rfl, ⟨nd, rfl⟩⟩; refine ⟨_, rfl, ?_⟩) | (go_at_call 11; (with_reducible refine (croftlaw1_multiples_uint16.calls k a0 a1 16 true _ A5.out).mono ?_); rintro e w' ⟨rfl, ⟨nd, rfl⟩⟩) | (go_at_call 12; (with_reducible refine (croftlaw1_multiples_uint32.calls k a0 a1 32 false _ A7.out).mono ?_); rintro e w' ⟨rfl, ⟨nd, rfl⟩⟩))
        go_ret
        exact ⟨by first | rfl | (simp; done) | (simp [*]; done), by repeat (first | exact Drawn0.refl _ | apply Drawn0.step)⟩
    · replace c6 := Bool.eq_false_iff.mpr c6
      subst c6
      have H1 : (some false) = some r := by rw [if_neg (show ¬ (false = true) by decide)] at H; exact H
      clear H
      have H := H1
      clear H1
      obtain rfl := Option.some.inj H
      go_enter Try.func3, Try.ntmps3
      go_wp2_with (first | ((with_reducible refine gate_callee (f := 10) rfl ?_); refine goesL_ (some 7) rfl rfl Try.func10 (by kernel_rfl) rfl #[.int .u64 a0, .int .u64 a1, .int .i64 8] rfl (by (try simp only [List.map_toArray, List.map_cons, List.map_nil]); first | done | rfl | (simp only [List.length_drop, List.length_take]; rfl)) ?_; (with_reducible refine (croftlaw1_multiples_uint8.calls k a0 a1 8 true _ A3.out).mono ?_); rintro e w' ⟨rfl, ⟨nd, rfl⟩⟩; refine ⟨_, rfl, ?_⟩) | (go_at_call 11; (with_reducible refine (croftlaw1_multiples_uint16.calls k a0 a1 16 false _ A5.out).mono ?_); rintro e w' ⟨rfl, ⟨nd, rfl⟩⟩))
      go_ret
      exact ⟨by first | rfl | (simp; done) | (simp [*]; done), by repeat (first | exact Drawn0.refl _ | apply Drawn0.step)⟩
  · replace c4 := Bool.eq_false_iff.mpr c4
    subst c4
    have H1 : (some false) = some r := by rw [if_neg (show ¬ (false = true) by decide)] at H; exact H
    clear H
    have H := H1
    clear H1
    obtain rfl := Option.some.inj H
    go_enter Try.func3, Try.ntmps3
    go_wp2_with (first | ((with_reducible refine gate_callee (f := 10) rfl ?_); refine goesL_ (some 7) rfl rfl Try.func10 (by kernel_rfl) rfl #[.int .u64 a0, .int .u64 a1, .int .i64 8] rfl (by (try simp only [List.map_toArray, List.map_cons, List.map_nil]); first | done | rfl | (simp only [List.length_drop, List.length_take]; rfl)) ?_; (with_reducible refine (croftlaw1_multiples_uint8.calls k a0 a1 8 false _ A3.out).mono ?_); rintro e w' ⟨rfl, ⟨nd, rfl⟩⟩; refine ⟨_, rfl, ?_⟩))
    go_ret
    exact ⟨by first | rfl | (simp; done) | (simp [*]; done), by repeat (first | exact Drawn0.refl _ | apply Drawn0.step)⟩

/-- THE ONE PURE STATEMENT of croftlaw1_BitsMultiples: yours. -/
def croftlaw1_BitsMultiples.Pure : Prop := ∀ (a0 : Int) (a1 : Int), (Lit.int .u64 a0).wf = true → (Lit.int .u64 a1).wf = true → ∃ k, croftlaw1_BitsMultiples.f k a0 a1 = some true
theorem croftlaw1_BitsMultiples.walk (P : croftlaw1_BitsMultiples.Pure) (a0 : Int) (a1 : Int) (w : World) (w0 : (Lit.int .u64 a0).wf = true) (w1 : (Lit.int .u64 a1).wf = true) :
    Calls Try.prog 3 #[.int .u64 a0, .int .u64 a1] w fun e w' => e = .returned (.bool true) ∧ Below w.heap.size w w' := by
  obtain ⟨k, h⟩ := P a0 a1 w0 w1
  refine (croftlaw1_BitsMultiples.calls k a0 a1 true w h).mono ?_
  rintro e w' ⟨rfl, hd⟩
  exact ⟨rfl, hd.below⟩

end Go.Proofs.Ytccpoflhmooanaa.PBitsMultiples
