import Derived.Test.YtihfblnjgaalcaaRC1
namespace Go.Proofs.Ytihfblnjgaalcaa.R
open Go.RowKit Go.Proofs.YtihfblnjgaalcaaW.PrintWords Go.Proofs.YtihfblnjgaalcaaW.PrintLast Go.Proofs.YtihfblnjgaalcaaW.PrintMore
attribute [local go_sem] max2_int min2_int max_two min_two max_three min_three max_four min_four
set_option linter.unusedVariables false
set_option linter.unusedSimpArgs false

/-! ### croftlaw11_left: function 17 -/
mutual
def croftlaw11_left.l0 : Nat → List (S55) → List (S49) → Int → Option (Bool)
 | 0, _, _, _ => none
 | k + 1, x0, x1, x5 => if x5 < (x1.length : Int) then (if 0 ≤ x5 then (if x5 < (x0.length : Int) then (if ((rd_T55 x0 x5).f0) = ((rd_T49 x1 x5).f0) then (if ((rd_T55 x0 x5).f1) = ((rd_T49 x1 x5).f1) then (croftlaw11_left.l0 k x0 x1 (wrap64 (x5 + 1))) else (some false)) else (some false)) else (none)) else (none)) else (croftlaw11_left.l1 k x0 x1 (x1.length : Int))
def croftlaw11_left.l1 : Nat → List (S55) → List (S49) → Int → Option (Bool)
 | 0, _, _, _ => none
 | k + 1, x0, x1, x6 => if x6 < (x0.length : Int) then (if 0 ≤ x6 then (if ((rd_T55 x0 x6).f0) = 77 then (if ((rd_T55 x0 x6).f1) = 78 then (croftlaw11_left.l1 k x0 x1 (wrap64 (x6 + 1))) else (some false)) else (some false)) else (none)) else (some ((x0.length : Int) == (wrap64 ((x1.length : Int) + 8))))
end
def croftlaw11_left.f (k : Nat) (l0 : List (S55)) (l1 : List (S49)) : Option (Bool) := croftlaw11_left.l0 k l0 l1 0
theorem croftlaw11_left.mono_l : ∀ k, (∀ y0 y1 y2, LeO (croftlaw11_left.l0 k y0 y1 y2) (croftlaw11_left.l0 (k + 1) y0 y1 y2)) ∧ (∀ y0 y1 y2, LeO (croftlaw11_left.l1 k y0 y1 y2) (croftlaw11_left.l1 (k + 1) y0 y1 y2))
 | 0 => ⟨fun _ _ _ r h => by simp [croftlaw11_left.l0] at h, fun _ _ _ r h => by simp [croftlaw11_left.l1] at h⟩
 | k + 1 => by
  obtain ⟨ih0, ih1⟩ := croftlaw11_left.mono_l k; refine ⟨?_, ?_⟩
  ·intro y0 y1 y2
   unfold croftlaw11_left.l0; repeat' first
   | (with_reducible exact ih0 _ _ _)
   | (with_reducible exact ih1 _ _ _)
   | (with_reducible exact LeO.refl _)
   | (with_reducible exact LeO.none _)
   | (with_reducible refine LeO.ite ?_ ?_)
   | (with_reducible refine LeO.bind ?_ (fun _ => ?_))
   | exact ih0 _ _ _
   | exact ih1 _ _ _
   | exact LeO.none _
   | refine LeO.ite ?_ ?_
   | refine LeO.bind ?_ (fun _ => ?_)
  ·intro y0 y1 y2
   unfold croftlaw11_left.l1; repeat' first
   | (with_reducible exact ih0 _ _ _)
   | (with_reducible exact ih1 _ _ _)
   | (with_reducible exact LeO.refl _)
   | (with_reducible exact LeO.none _)
   | (with_reducible refine LeO.ite ?_ ?_)
   | (with_reducible refine LeO.bind ?_ (fun _ => ?_))
   | exact ih0 _ _ _
   | exact ih1 _ _ _
   | exact LeO.none _
   | refine LeO.ite ?_ ?_
   | refine LeO.bind ?_ (fun _ => ?_)
theorem croftlaw11_left.mono : ∀ a0 a1 k, LeO (croftlaw11_left.f k a0 a1) (croftlaw11_left.f (k + 1) a0 a1) := by
 intro a0 a1 k; obtain ⟨ih0, ih1⟩ := croftlaw11_left.mono_l k; unfold croftlaw11_left.f
 repeat' first
   | (with_reducible exact ih0 _ _ _)
   | (with_reducible exact ih1 _ _ _)
   | (with_reducible exact LeO.refl _)
   | (with_reducible exact LeO.none _)
   | (with_reducible refine LeO.ite ?_ ?_)
   | (with_reducible refine LeO.bind ?_ (fun _ => ?_))
   | exact ih0 _ _ _
   | exact ih1 _ _ _
   | exact LeO.none _
   | refine LeO.ite ?_ ?_
   | refine LeO.bind ?_ (fun _ => ?_)
set_option maxHeartbeats 8000000 in
set_option maxRecDepth 100000 in
theorem croftlaw11_left.calls (k : Nat) (A0 : Option Addr) (c0 : Nat) (l0 : List (S55)) (A1 : Option Addr) (c1 : Nat) (l1 : List (S49)) (r : Bool) (w : World) (hr0 : Kd.C k55 w A0 l0.length l0) (hc0 : l0.length ≤ c0) (hr1 : Kd.C k49 w A1 l1.length l1) (hc1 : l1.length ≤ c1) (h : croftlaw11_left.f k l0 l1 = some r) :
  Calls Try.prog 17 #[.slice A0 l0.length c0, .slice A1 l1.length c1] w fun e w' => e = .returned (.bool r) ∧ Drawn0 w w' := by
 have HR0 := Aside0.mk hr0; have HC0 := Aside0.mk hc0; clear hr0 hc0; have HR1 := Aside0.mk hr1; have HC1 := Aside0.mk hc1; clear hr1 hc1; have H : (croftlaw11_left.l0 k l0 l1 0) = some r := h; clear h; have H' := Aside0.mk H; clear H; go_enter Try.func17, Try.ntmps17; go_wp2; repeat (go_quiet (fail); try go_wp2)
 go_loopg [5] k (fun kq v5 w' => ∃ (x5_1 : Int), v5 = .int .i64 x5_1 ∧ Aside0 (croftlaw11_left.l0 kq l0 l1 x5_1 = some r) ∧ Aside0 (kq ≤ k) ∧ Drawn0 w w')
 case atStart => exact ⟨(0), (by first | rfl | (simp; done) | (simp [*]; done)), H', ⟨Nat.le_refl _⟩, by repeat (first | exact Drawn0.refl _ | apply Drawn0.step)⟩
 case round =>
  clear H'; try clear c1; try clear p2
  obtain ⟨x5_1, rfl, HA, HK1, ⟨m1, rfl⟩⟩ := hrel
  cases gk with
  | zero => exact absurd HA.out (by simp [croftlaw11_left.l0])
  | succ k1 =>
   have H := HA.out; clear HA; simp only [croftlaw11_left.l0] at H; by_cases c3 : x5_1 < (l1.length : Int)
   ·rw [if_pos c3] at H
    have c3b0 : decide (x5_1 < (l1.length : Int)) = true := decide_eq_true c3; clear c3; by_cases c4 : 0 ≤ x5_1
    ·rw [if_pos c4] at H
     have c4b0 : decide (0 ≤ x5_1) = true := decide_eq_true c4; clear c4; by_cases c5 : x5_1 < (l0.length : Int)
     ·rw [if_pos c5] at H
      have c5b0 : decide (x5_1 < (l0.length : Int)) = true := decide_eq_true c5; clear c5; by_cases c6 : ((rd_T55 l0 x5_1).f0) = ((rd_T49 l1 x5_1).f0)
      ·rw [if_pos c6] at H
       have c6b0 : (((rd_T55 l0 x5_1).f0) == ((rd_T49 l1 x5_1).f0)) = true := beq_iff_eq.mpr c6; have c6b1 : (((rd_T55 l0 x5_1).f0) != ((rd_T49 l1 x5_1).f0)) = false := bne_eq_false_iff_eq.mpr c6; clear c6; by_cases c7 : ((rd_T55 l0 x5_1).f1) = ((rd_T49 l1 x5_1).f1)
       ·rw [if_pos c7] at H
        have c7b0 : (((rd_T55 l0 x5_1).f1) == ((rd_T49 l1 x5_1).f1)) = true := beq_iff_eq.mpr c7; have c7b1 : (((rd_T55 l0 x5_1).f1) != ((rd_T49 l1 x5_1).f1)) = false := bne_eq_false_iff_eq.mpr c7; clear c7; have H' := Aside0.mk H; clear H; have p146 : 0 ≤ (x5_1 : Int) := of_decide_eq_true (by first | (with_reducible assumption) | assumption); have q146 : x5_1 < (l0.length : Int) := of_decide_eq_true (by first | (with_reducible assumption) | assumption); obtain ⟨ad146, e146, hx146_0, hx146_1⟩ := at_T55 HR0.out x5_1 p146 q146; cases e146; replace p146 := eq_true p146; replace q146 := eq_true q146; have p147 : 0 ≤ (x5_1 : Int) := of_decide_eq_true (by first | (with_reducible assumption) | assumption); have q147 : x5_1 < (l1.length : Int) := of_decide_eq_true (by first | (with_reducible assumption) | assumption); obtain ⟨ad147, e147, hx147_0, hx147_1⟩ := at_T49 HR1.out x5_1 p147 q147; cases e147; replace p147 := eq_true p147; replace q147 := eq_true q147; have p148 : 0 ≤ (x5_1 : Int) := of_decide_eq_true (by first | (with_reducible assumption) | assumption); have q148 : x5_1 < (l0.length : Int) := of_decide_eq_true (by first | (with_reducible assumption) | assumption); obtain ⟨ad148, e148, hx148_0, hx148_1⟩ := at_T55 HR0.out x5_1 p148 q148; obtain rfl : ad146 = ad148 := (by injection e148); replace p148 := eq_true p148; replace q148 := eq_true q148; have p149 : 0 ≤ (x5_1 : Int) := of_decide_eq_true (by first | (with_reducible assumption) | assumption); have q149 : x5_1 < (l1.length : Int) := of_decide_eq_true (by first | (with_reducible assumption) | assumption); obtain ⟨ad149, e149, hx149_0, hx149_1⟩ := at_T49 HR1.out x5_1 p149 q149; obtain rfl : ad147 = ad149 := (by injection e149); replace p149 := eq_true p149; replace q149 := eq_true q149; go_wp2; repeat (go_quiet (fail); try go_wp2)
        go_roundg k1
        case measure => have := HK1.out; omega
        case rel => exact ⟨(wrap64 (x5_1 + 1)), (by first | rfl | (simp; done) | (simp [*]; done)), H', ⟨by have := HK1.out; omega⟩, by repeat (first | exact Drawn0.refl _ | apply Drawn0.step)⟩
       ·rw [if_neg c7] at H
        have c7b0 : (((rd_T55 l0 x5_1).f1) == ((rd_T49 l1 x5_1).f1)) = false := beq_eq_false_iff_ne.mpr c7; have c7b1 : (((rd_T55 l0 x5_1).f1) != ((rd_T49 l1 x5_1).f1)) = true := bne_iff_ne.mpr c7; obtain rfl := Option.some.inj H; have p146 : 0 ≤ (x5_1 : Int) := of_decide_eq_true (by first | (with_reducible assumption) | assumption); have q146 : x5_1 < (l0.length : Int) := of_decide_eq_true (by first | (with_reducible assumption) | assumption); obtain ⟨ad146, e146, hx146_0, hx146_1⟩ := at_T55 HR0.out x5_1 p146 q146; cases e146; replace p146 := eq_true p146; replace q146 := eq_true q146; have p147 : 0 ≤ (x5_1 : Int) := of_decide_eq_true (by first | (with_reducible assumption) | assumption); have q147 : x5_1 < (l1.length : Int) := of_decide_eq_true (by first | (with_reducible assumption) | assumption); obtain ⟨ad147, e147, hx147_0, hx147_1⟩ := at_T49 HR1.out x5_1 p147 q147; cases e147; replace p147 := eq_true p147; replace q147 := eq_true q147; have p148 : 0 ≤ (x5_1 : Int) := of_decide_eq_true (by first | (with_reducible assumption) | assumption); have q148 : x5_1 < (l0.length : Int) := of_decide_eq_true (by first | (with_reducible assumption) | assumption); obtain ⟨ad148, e148, hx148_0, hx148_1⟩ := at_T55 HR0.out x5_1 p148 q148; obtain rfl : ad146 = ad148 := (by injection e148); replace p148 := eq_true p148; replace q148 := eq_true q148; have p149 : 0 ≤ (x5_1 : Int) := of_decide_eq_true (by first | (with_reducible assumption) | assumption); have q149 : x5_1 < (l1.length : Int) := of_decide_eq_true (by first | (with_reducible assumption) | assumption); obtain ⟨ad149, e149, hx149_0, hx149_1⟩ := at_T49 HR1.out x5_1 p149 q149; obtain rfl : ad147 = ad149 := (by injection e149); replace p149 := eq_true p149; replace q149 := eq_true q149; go_wp2; repeat (go_quiet (fail); try go_wp2)
        go_ret; exact ⟨by first | rfl | (simp; done) | (simp [*]; done), by repeat (first | exact Drawn0.refl _ | apply Drawn0.step)⟩
      ·rw [if_neg c6] at H
       have c6b0 : (((rd_T55 l0 x5_1).f0) == ((rd_T49 l1 x5_1).f0)) = false := beq_eq_false_iff_ne.mpr c6; have c6b1 : (((rd_T55 l0 x5_1).f0) != ((rd_T49 l1 x5_1).f0)) = true := bne_iff_ne.mpr c6; obtain rfl := Option.some.inj H; have p146 : 0 ≤ (x5_1 : Int) := of_decide_eq_true (by first | (with_reducible assumption) | assumption); have q146 : x5_1 < (l0.length : Int) := of_decide_eq_true (by first | (with_reducible assumption) | assumption); obtain ⟨ad146, e146, hx146_0, hx146_1⟩ := at_T55 HR0.out x5_1 p146 q146; cases e146; replace p146 := eq_true p146; replace q146 := eq_true q146; have p147 : 0 ≤ (x5_1 : Int) := of_decide_eq_true (by first | (with_reducible assumption) | assumption); have q147 : x5_1 < (l1.length : Int) := of_decide_eq_true (by first | (with_reducible assumption) | assumption); obtain ⟨ad147, e147, hx147_0, hx147_1⟩ := at_T49 HR1.out x5_1 p147 q147; cases e147; replace p147 := eq_true p147; replace q147 := eq_true q147; go_wp2; repeat (go_quiet (fail); try go_wp2)
       go_ret; exact ⟨by first | rfl | (simp; done) | (simp [*]; done), by repeat (first | exact Drawn0.refl _ | apply Drawn0.step)⟩
     ·rw [if_neg c5] at H
      exact absurd H (by simp)
    ·rw [if_neg c4] at H
     exact absurd H (by simp)
   ·rw [if_neg c3] at H
    have c3b0 : decide (x5_1 < (l1.length : Int)) = false := decide_eq_false c3; clear c3; have H' := Aside0.mk H; clear H; go_wp2; repeat (go_quiet (fail); try go_wp2)
    go_loopg [6] k1 (fun kq v6 w' => ∃ (x6_2 : Int), v6 = .int .i64 x6_2 ∧ Aside0 (croftlaw11_left.l1 kq l0 l1 x6_2 = some r) ∧ Aside0 (kq ≤ k1) ∧ Drawn0 w w')
    case atStart => exact ⟨((l1.length : Int)), (by first | rfl | (simp; done) | (simp [*]; done)), H', ⟨Nat.le_refl _⟩, by repeat (first | exact Drawn0.refl _ | apply Drawn0.step)⟩
    case round =>
     clear H'; try clear c1; try clear p1; try clear q1; try clear hx1; try clear p2; try clear c3; try clear c3b0; try clear c4; try clear c4b0; try clear c5; try clear c5b0; try clear c6; try clear c6b0; try clear c6b1; try clear p6; try clear c7; try clear c7b0; try clear c7b1; try clear hx146_0; try clear hx146_1; try clear hx147_0; try clear hx147_1; try clear hx148_0; try clear hx148_1; try clear hx149_0; try clear hx149_1; try clear p146; try clear p147; try clear p148; try clear p149; try clear p2; try clear q146; try clear q147; try clear q148; try clear q149
     obtain ⟨x6_2, rfl, HA, HK2, ⟨m2, rfl⟩⟩ := hrel
     cases gk with
     | zero => exact absurd HA.out (by simp [croftlaw11_left.l1])
     | succ k2 =>
      have H := HA.out; clear HA; simp only [croftlaw11_left.l1] at H; by_cases c8 : x6_2 < (l0.length : Int)
      ·rw [if_pos c8] at H
       have c8b0 : decide (x6_2 < (l0.length : Int)) = true := decide_eq_true c8; clear c8; by_cases c9 : 0 ≤ x6_2
       ·rw [if_pos c9] at H
        have c9b0 : decide (0 ≤ x6_2) = true := decide_eq_true c9; clear c9; by_cases c10 : ((rd_T55 l0 x6_2).f0) = 77
        ·rw [if_pos c10] at H
         have c10b0 : (((rd_T55 l0 x6_2).f0) == 77) = true := beq_iff_eq.mpr c10; have c10b1 : (((rd_T55 l0 x6_2).f0) != 77) = false := bne_eq_false_iff_eq.mpr c10; clear c10; by_cases c11 : ((rd_T55 l0 x6_2).f1) = 78
         ·rw [if_pos c11] at H
          have c11b0 : (((rd_T55 l0 x6_2).f1) == 78) = true := beq_iff_eq.mpr c11; have c11b1 : (((rd_T55 l0 x6_2).f1) != 78) = false := bne_eq_false_iff_eq.mpr c11; clear c11; have H' := Aside0.mk H; clear H; have p150 : 0 ≤ (x6_2 : Int) := of_decide_eq_true (by first | (with_reducible assumption) | assumption); have q150 : x6_2 < (l0.length : Int) := of_decide_eq_true (by first | (with_reducible assumption) | assumption); obtain ⟨ad150, e150, hx150_0, hx150_1⟩ := at_T55 HR0.out x6_2 p150 q150; cases e150; replace p150 := eq_true p150; replace q150 := eq_true q150; have p151 : 0 ≤ (x6_2 : Int) := of_decide_eq_true (by first | (with_reducible assumption) | assumption); have q151 : x6_2 < (l0.length : Int) := of_decide_eq_true (by first | (with_reducible assumption) | assumption); obtain ⟨ad151, e151, hx151_0, hx151_1⟩ := at_T55 HR0.out x6_2 p151 q151; obtain rfl : ad150 = ad151 := (by injection e151); replace p151 := eq_true p151; replace q151 := eq_true q151; go_wp2; repeat (go_quiet (fail); try go_wp2)
          go_roundg k2
          case measure => have := HK1.out; have := HK2.out; omega
          case rel => exact ⟨(wrap64 (x6_2 + 1)), (by first | rfl | (simp; done) | (simp [*]; done)), H', ⟨by have := HK1.out; have := HK2.out; omega⟩, by repeat (first | exact Drawn0.refl _ | apply Drawn0.step)⟩
         ·rw [if_neg c11] at H
          have c11b0 : (((rd_T55 l0 x6_2).f1) == 78) = false := beq_eq_false_iff_ne.mpr c11; have c11b1 : (((rd_T55 l0 x6_2).f1) != 78) = true := bne_iff_ne.mpr c11; obtain rfl := Option.some.inj H; have p150 : 0 ≤ (x6_2 : Int) := of_decide_eq_true (by first | (with_reducible assumption) | assumption); have q150 : x6_2 < (l0.length : Int) := of_decide_eq_true (by first | (with_reducible assumption) | assumption); obtain ⟨ad150, e150, hx150_0, hx150_1⟩ := at_T55 HR0.out x6_2 p150 q150; cases e150; replace p150 := eq_true p150; replace q150 := eq_true q150; have p151 : 0 ≤ (x6_2 : Int) := of_decide_eq_true (by first | (with_reducible assumption) | assumption); have q151 : x6_2 < (l0.length : Int) := of_decide_eq_true (by first | (with_reducible assumption) | assumption); obtain ⟨ad151, e151, hx151_0, hx151_1⟩ := at_T55 HR0.out x6_2 p151 q151; obtain rfl : ad150 = ad151 := (by injection e151); replace p151 := eq_true p151; replace q151 := eq_true q151; go_wp2; repeat (go_quiet (fail); try go_wp2)
          go_ret; exact ⟨by first | rfl | (simp; done) | (simp [*]; done), by repeat (first | exact Drawn0.refl _ | apply Drawn0.step)⟩
        ·rw [if_neg c10] at H
         have c10b0 : (((rd_T55 l0 x6_2).f0) == 77) = false := beq_eq_false_iff_ne.mpr c10; have c10b1 : (((rd_T55 l0 x6_2).f0) != 77) = true := bne_iff_ne.mpr c10; obtain rfl := Option.some.inj H; have p150 : 0 ≤ (x6_2 : Int) := of_decide_eq_true (by first | (with_reducible assumption) | assumption); have q150 : x6_2 < (l0.length : Int) := of_decide_eq_true (by first | (with_reducible assumption) | assumption); obtain ⟨ad150, e150, hx150_0, hx150_1⟩ := at_T55 HR0.out x6_2 p150 q150; cases e150; replace p150 := eq_true p150; replace q150 := eq_true q150; go_wp2; repeat (go_quiet (fail); try go_wp2)
         go_ret; exact ⟨by first | rfl | (simp; done) | (simp [*]; done), by repeat (first | exact Drawn0.refl _ | apply Drawn0.step)⟩
       ·rw [if_neg c9] at H
        exact absurd H (by simp)
      ·rw [if_neg c8] at H
       have c8b0 : decide (x6_2 < (l0.length : Int)) = false := decide_eq_false c8; clear c8; obtain rfl := Option.some.inj H; go_wp2; repeat (go_quiet (fail); try go_wp2)
       go_ret; exact ⟨by first | rfl | (simp; done) | (simp [*]; done), by repeat (first | exact Drawn0.refl _ | apply Drawn0.step)⟩


end Go.Proofs.Ytihfblnjgaalcaa.R
