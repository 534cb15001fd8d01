import Derived.Test.YtihfblnjgaalcaaRRi1
namespace Go.Proofs.Ytihfblnjgaalcaa.R
open Go.RowKit Go.Proofs.YtihfblnjgaalcaaW.PrintWords Go.Proofs.YtihfblnjgaalcaaW.PrintLast Go.Proofs.YtihfblnjgaalcaaW.PrintMore
attribute [local go_sem] max2_int min2_int max_two min_two max_three min_three max_four min_four
set_option linter.unusedVariables false
set_option linter.unusedSimpArgs false

/-! ### croftlaw11_OracleRises: function 6 -/
def croftlaw11_OracleRises.l0 : Nat → List (S55) → Int → Int → Int → Int → Int → List (S49) → Int → Bool → Int → Int → Int → Int → Int → Option (Bool)
 | 0, _, _, _, _, _, _, _, _, _, _, _, _, _, _ => none
 | k + 1, x5, x7, x194000, x194001, x194002, x194003, x194004, x194005, x194006, x195000, x195001, x203000, x203001, x203002 => (croftref11_R.f x194000 x194001 x194002).bind fun t208 => (if x7 ≤ t208 then (if x7 ≥ 4096 then (if 0 ≤ (x194004.length : Int) then (if (x194004.length : Int) ≤ (x5.length : Int) then ((oracle_NoFit.f x203000 x203001 x203002 x194003 (x5.take ((x194004.length : Int) : Int).toNat) x7).bind fun t213 => (if t213 = true then (croftlaw11_OracleRises.l0 k x5 (IntKind.u64.wrap (x7 * 2)) x194000 x194001 x194002 x194003 x194004 x194005 x194006 x195000 x195001 x203000 x203001 x203002) else (some false))) else (none)) else (none)) else (croftlaw11_OracleRises.l0 k x5 (IntKind.u64.wrap (x7 * 2)) x194000 x194001 x194002 x194003 x194004 x194005 x194006 x195000 x195001 x203000 x203001 x203002)) else ((croftlaw11_turned.f k x194004).bind fun t214 => ((some (([(⟨x195000, x195001⟩ : S49)] : List (S49)) : List (S49))).bind fun y217 => (if t214.length + y217.length < 8796093022208 then ((some (t214 ++ y217 : List (S49))).bind fun y220 => ((croftlaw11_blocks.f k y220).bind fun t223 => ((croftref11_Sound.f k x194000 x194001 x194002 x194003 y220).bind fun t226 => (if t226 = (-1) then (if x194005 < 4096 then (some true) else (if 0 ≤ (y220.length : Int) then (if (y220.length : Int) ≤ (t223.length : Int) then ((oracle_NoFit.f x203000 x203001 x203002 x194003 (t223.take ((y220.length : Int) : Int).toNat) x194005).bind fun t231 => (some t231)) else (none)) else (none))) else (some true))))) else (none)))))
def croftlaw11_OracleRises.f (k : Nat) (a0_0 : Int) (a0_1 : Int) (a0_2 : Int) (a0_3 : Int) (l0_4 : List (S49)) (a0_5 : Int) (a0_6 : Bool) (a1_0 : Int) (a1_1 : Int) : Option (Bool) := (croftlaw11_awake.f k).bind fun t195 => (if t195 = true then ((croftlaw11_blocks.f k l0_4).bind fun t196 => ((croftlaw11_config.f a0_0 a0_1 a0_2).bind fun bt199 => (if 0 ≤ (l0_4.length : Int) then (if (l0_4.length : Int) ≤ (t196.length : Int) then ((oracle_NoFit.f bt199.1 bt199.2.1 bt199.2.2 a0_3 (t196.take ((l0_4.length : Int) : Int).toNat) a0_5).bind fun t207 => (if t207 = true then (croftlaw11_OracleRises.l0 k t196 a0_5 a0_0 a0_1 a0_2 a0_3 l0_4 a0_5 a0_6 a1_0 a1_1 bt199.1 bt199.2.1 bt199.2.2) else (some true))) else (none)) else (none)))) else (some false))
theorem croftlaw11_OracleRises.mono_l : ∀ k, (∀ y0 y1 y2 y3 y4 y5 y6 y7 y8 y9 y10 y11 y12 y13, LeO (croftlaw11_OracleRises.l0 k y0 y1 y2 y3 y4 y5 y6 y7 y8 y9 y10 y11 y12 y13) (croftlaw11_OracleRises.l0 (k + 1) y0 y1 y2 y3 y4 y5 y6 y7 y8 y9 y10 y11 y12 y13))
 | 0 => fun _ _ _ _ _ _ _ _ _ _ _ _ _ _ r h => by simp [croftlaw11_OracleRises.l0] at h
 | k + 1 => by
  have ih0 := croftlaw11_OracleRises.mono_l k
  ·intro y0 y1 y2 y3 y4 y5 y6 y7 y8 y9 y10 y11 y12 y13
   unfold croftlaw11_OracleRises.l0
   repeat' first
   | (with_reducible exact ih0 _ _ _ _ _ _ _ _ _ _ _ _ _ _)
   | (with_reducible exact croftlaw11_awake.mono _)
   | (with_reducible exact croftlaw11_blocks.mono _ _)
   | (with_reducible exact croftlaw11_turned.mono _ _)
   | (with_reducible exact croftref11_Sound.mono _ _ _ _ _ _)
   | (with_reducible exact LeO.refl _)
   | (with_reducible exact LeO.none _)
   | (with_reducible refine LeO.ite ?_ ?_)
   | (with_reducible refine LeO.bind ?_ (fun _ => ?_))
   | exact ih0 _ _ _ _ _ _ _ _ _ _ _ _ _ _
   | exact croftlaw11_awake.mono _
   | exact croftlaw11_blocks.mono _ _
   | exact croftlaw11_turned.mono _ _
   | exact croftref11_Sound.mono _ _ _ _ _ _
   | exact LeO.none _
   | refine LeO.ite ?_ ?_
   | refine LeO.bind ?_ (fun _ => ?_)
theorem croftlaw11_OracleRises.mono : ∀ a0 a1 a2 a3 a4 a5 a6 a7 a8 k, LeO (croftlaw11_OracleRises.f k a0 a1 a2 a3 a4 a5 a6 a7 a8) (croftlaw11_OracleRises.f (k + 1) a0 a1 a2 a3 a4 a5 a6 a7 a8) := by
 intro a0 a1 a2 a3 a4 a5 a6 a7 a8 k
 have ih0 := croftlaw11_OracleRises.mono_l k
 unfold croftlaw11_OracleRises.f
 repeat' first
   | (with_reducible exact ih0 _ _ _ _ _ _ _ _ _ _ _ _ _ _)
   | (with_reducible exact croftlaw11_awake.mono _)
   | (with_reducible exact croftlaw11_blocks.mono _ _)
   | (with_reducible exact croftlaw11_turned.mono _ _)
   | (with_reducible exact croftref11_Sound.mono _ _ _ _ _ _)
   | (with_reducible exact LeO.refl _)
   | (with_reducible exact LeO.none _)
   | (with_reducible refine LeO.ite ?_ ?_)
   | (with_reducible refine LeO.bind ?_ (fun _ => ?_))
   | exact ih0 _ _ _ _ _ _ _ _ _ _ _ _ _ _
   | exact croftlaw11_awake.mono _
   | exact croftlaw11_blocks.mono _ _
   | exact croftlaw11_turned.mono _ _
   | exact croftref11_Sound.mono _ _ _ _ _ _
   | exact LeO.none _
   | refine LeO.ite ?_ ?_
   | refine LeO.bind ?_ (fun _ => ?_)
def croftlaw11_OracleRises.T5 : Bool × List (List Nat × List Nat) := (true, [([], []), ([], []), ([1], [1]), ([], []), ([], []), ([4], [4]), ([5], [5]), ([3, 6], [3, 6]), ([], []), ([8], [8]), ([0, 2, 7, 9], [0, 2, 7, 9]), ([10], [10])])
def croftlaw11_OracleRises.B5 : List Nat := [0, 0, 2, 0, 0, 16, 48, 120, 0, 256, 1023, 2047]
theorem croftlaw11_OracleRises.tab5 : rtab .any (opsOf Try.f6 5) = croftlaw11_OracleRises.T5 := by kernel_rfl
theorem croftlaw11_OracleRises.bits5 : waitsOk croftlaw11_OracleRises.T5.2 croftlaw11_OracleRises.B5 = true := by kernel_rfl
def croftlaw11_OracleRises.T10 : Bool × List (List Nat × List Nat) := (true, [([], []), ([0], [0]), ([1], [1]), ([2], [2]), ([2], [2]), ([4, 2], [2, 4]), ([2], [2]), ([2], [2]), ([7, 2], [2, 7]), ([8, 2], [2, 8]), ([6, 9, 2], [2, 6, 9]), ([2], [2]), ([3, 5, 10, 11, 2, 2], [2, 3, 5, 10, 11]), ([12, 2], [2, 12]), ([2, 13], [2, 13])])
def croftlaw11_OracleRises.B10 : List Nat := [0, 1, 3, 7, 7, 23, 7, 7, 135, 391, 967, 7, 4095, 8191, 16383]
theorem croftlaw11_OracleRises.tab10 : rtab .any (opsOf Try.f6 10) = croftlaw11_OracleRises.T10 := by kernel_rfl
theorem croftlaw11_OracleRises.bits10 : waitsOk croftlaw11_OracleRises.T10.2 croftlaw11_OracleRises.B10 = true := by kernel_rfl
def croftlaw11_OracleRises.T16 : Bool × List (List Nat × List Nat) := (true, [([], []), ([], []), ([1], [1]), ([], []), ([], []), ([4], [4]), ([3, 5], [3, 5]), ([], []), ([7], [7]), ([0, 2, 6, 8], [0, 2, 6, 8]), ([9, 9, 0, 1, 2, 3, 4, 5, 6, 7, 8, 9], [9])])
def croftlaw11_OracleRises.B16 : List Nat := [0, 0, 2, 0, 0, 16, 56, 0, 128, 511, 1023]
theorem croftlaw11_OracleRises.tab16 : rtab .any (opsOf Try.f6 16) = croftlaw11_OracleRises.T16 := by kernel_rfl
theorem croftlaw11_OracleRises.bits16 : waitsOk croftlaw11_OracleRises.T16.2 croftlaw11_OracleRises.B16 = true := by kernel_rfl
set_option maxHeartbeats 8000000 in
set_option maxRecDepth 100000 in
theorem croftlaw11_OracleRises.calls (k : Nat) (a0_0 : Int) (a0_1 : Int) (a0_2 : Int) (a0_3 : Int) (A0_4 : Option Addr) (c0_4 : Nat) (l0_4 : List (S49)) (a0_5 : Int) (a0_6 : Bool) (a1_0 : Int) (a1_1 : Int) (r : Bool) (w : World) (hr0_4 : Kd.C k49 w A0_4 l0_4.length l0_4) (hc0_4 : l0_4.length ≤ c0_4) (h : croftlaw11_OracleRises.f k a0_0 a0_1 a0_2 a0_3 l0_4 a0_5 a0_6 a1_0 a1_1 = some r) :
  Calls Try.prog 6 #[.agg #[.int .u64 a0_0, .int .i64 a0_1, .int .i64 a0_2, .int .i64 a0_3, .slice A0_4 l0_4.length c0_4, .int .u64 a0_5, .bool a0_6], .agg #[.int .u64 a1_0, .int .u64 a1_1]] w fun e w' => e = .returned (.bool r) ∧ Below w.heap.size w w' := by
 have hu44 := Try.underlying44
 have hu49 := Try.underlying49
 have hu24 := Try.underlying24
 have hu29 := Try.underlying29
 have HR0_4 := Aside0.mk hr0_4
 have HC0_4 := Aside0.mk hc0_4
 clear hr0_4 hc0_4
 have HB := Aside0.mk (Below.refl w.heap.size w)
 have H : ((croftlaw11_awake.f k).bind fun t195 => (if t195 = true then ((croftlaw11_blocks.f k l0_4).bind fun t196 => ((croftlaw11_config.f a0_0 a0_1 a0_2).bind fun bt199 => (if 0 ≤ (l0_4.length : Int) then (if (l0_4.length : Int) ≤ (t196.length : Int) then ((oracle_NoFit.f bt199.1 bt199.2.1 bt199.2.2 a0_3 (t196.take ((l0_4.length : Int) : Int).toNat) a0_5).bind fun t207 => (if t207 = true then (croftlaw11_OracleRises.l0 k t196 a0_5 a0_0 a0_1 a0_2 a0_3 l0_4 a0_5 a0_6 a1_0 a1_1 bt199.1 bt199.2.1 bt199.2.2) else (some true))) else (none)) else (none)))) else (some false))) = some r := h
 clear h
 replace H := Option.bind_eq_some_iff.mp H
 obtain ⟨t195, A30, H⟩ := H
 replace H : (if t195 = true then ((croftlaw11_blocks.f k l0_4).bind fun t196 => ((croftlaw11_config.f a0_0 a0_1 a0_2).bind fun bt199 => (if 0 ≤ (l0_4.length : Int) then (if (l0_4.length : Int) ≤ (t196.length : Int) then ((oracle_NoFit.f bt199.1 bt199.2.1 bt199.2.2 a0_3 (t196.take ((l0_4.length : Int) : Int).toNat) a0_5).bind fun t207 => (if t207 = true then (croftlaw11_OracleRises.l0 k t196 a0_5 a0_0 a0_1 a0_2 a0_3 l0_4 a0_5 a0_6 a1_0 a1_1 bt199.1 bt199.2.1 bt199.2.2) else (some true))) else (none)) else (none)))) else (some false)) = some r := H
 have A3 := Aside0.mk A30
 clear A30
 by_cases c4 : t195 = true
 ·subst c4
  have H1 : ((croftlaw11_blocks.f k l0_4).bind fun t196 => ((croftlaw11_config.f a0_0 a0_1 a0_2).bind fun bt199 => (if 0 ≤ (l0_4.length : Int) then (if (l0_4.length : Int) ≤ (t196.length : Int) then ((oracle_NoFit.f bt199.1 bt199.2.1 bt199.2.2 a0_3 (t196.take ((l0_4.length : Int) : Int).toNat) a0_5).bind fun t207 => (if t207 = true then (croftlaw11_OracleRises.l0 k t196 a0_5 a0_0 a0_1 a0_2 a0_3 l0_4 a0_5 a0_6 a1_0 a1_1 bt199.1 bt199.2.1 bt199.2.2) else (some true))) else (none)) else (none)))) = some r := by rw [if_pos rfl] at H; exact H
  clear H
  have H := H1
  clear H1
  replace H := Option.bind_eq_some_iff.mp H
  obtain ⟨t196, A50, H⟩ := H
  replace H : ((croftlaw11_config.f a0_0 a0_1 a0_2).bind fun bt199 => (if 0 ≤ (l0_4.length : Int) then (if (l0_4.length : Int) ≤ (t196.length : Int) then ((oracle_NoFit.f bt199.1 bt199.2.1 bt199.2.2 a0_3 (t196.take ((l0_4.length : Int) : Int).toNat) a0_5).bind fun t207 => (if t207 = true then (croftlaw11_OracleRises.l0 k t196 a0_5 a0_0 a0_1 a0_2 a0_3 l0_4 a0_5 a0_6 a1_0 a1_1 bt199.1 bt199.2.1 bt199.2.2) else (some true))) else (none)) else (none))) = some r := H
  have A5 := Aside0.mk A50
  clear A50
  replace H := Option.bind_eq_some_iff.mp H
  obtain ⟨⟨t199, t200, t201⟩, A60, H⟩ := H
  replace H : (if 0 ≤ (l0_4.length : Int) then (if (l0_4.length : Int) ≤ (t196.length : Int) then ((oracle_NoFit.f t199 t200 t201 a0_3 (t196.take ((l0_4.length : Int) : Int).toNat) a0_5).bind fun t207 => (if t207 = true then (croftlaw11_OracleRises.l0 k t196 a0_5 a0_0 a0_1 a0_2 a0_3 l0_4 a0_5 a0_6 a1_0 a1_1 t199 t200 t201) else (some true))) else (none)) else (none)) = some r := H
  have A6 := Aside0.mk A60
  clear A60
  by_cases c7 : 0 ≤ (l0_4.length : Int)
  ·rw [if_pos c7] at H
   have c7b0 := eq_true c7
   have c7b1 : decide (0 ≤ (l0_4.length : Int)) = true := decide_eq_true c7
   clear c7
   by_cases c8 : (l0_4.length : Int) ≤ (t196.length : Int)
   ·rw [if_pos c8] at H
    have c8b0 := eq_true c8
    have c8b1 : decide ((l0_4.length : Int) ≤ (t196.length : Int)) = true := decide_eq_true c8
    clear c8
    obtain ⟨y203, hy203⟩ : ∃ y_ : List (S55), y_ = (t196.take ((l0_4.length : Int) : Int).toNat) := ⟨_, rfl⟩
    replace H : ((oracle_NoFit.f t199 t200 t201 a0_3 y203 a0_5).bind fun t207 => (if t207 = true then (croftlaw11_OracleRises.l0 k t196 a0_5 a0_0 a0_1 a0_2 a0_3 l0_4 a0_5 a0_6 a1_0 a1_1 t199 t200 t201) else (some true))) = some r := by first | (rw [hy203]; with_reducible exact H) | (have H2_ := (Option.bind_some _ _).symm.trans H; rw [hy203]; with_reducible exact H2_) | (have H2_ := (Option.bind_some _ _).symm.trans H; with_reducible exact H2_) | with_reducible exact H | (rw [hy203]; exact H) | exact H
    have Ny203 := Aside0.mk hy203
    clear hy203
    replace H := Option.bind_eq_some_iff.mp H
    obtain ⟨t207, A90, H⟩ := H
    replace H : (if t207 = true then (croftlaw11_OracleRises.l0 k t196 a0_5 a0_0 a0_1 a0_2 a0_3 l0_4 a0_5 a0_6 a1_0 a1_1 t199 t200 t201) else (some true)) = some r := H
    have A9 := Aside0.mk A90
    clear A90
    by_cases c10 : t207 = true
    ·subst c10
     have H1 : (croftlaw11_OracleRises.l0 k t196 a0_5 a0_0 a0_1 a0_2 a0_3 l0_4 a0_5 a0_6 a1_0 a1_1 t199 t200 t201) = some r := by rw [if_pos rfl] at H; exact H
     clear H
     have H := H1
     clear H1
     have H' := Aside0.mk H
     clear H
     go_enter Try.func6, Try.ntmps6
     try go_wp2_with (first | ((with_reducible refine gate_dst (N := 2) rfl ?_); (try (refine gate_guard (by rfl) ?_; dsimp only)); refine box_event ?hg (N := 2) ?hd (cs := #[.int .u64 a0_0, .int .i64 a0_1, .int .i64 a0_2, .int .i64 a0_3, .slice A0_4 l0_4.length c0_4, .int .u64 a0_5, .bool a0_6]) (t := 44) ?hr ?_; (case hd => rfl); (case hg => rfl); (case hr => first | (go_simp; done) | (go_simp; rfl)); intro gb193 hg w11 hbox hb; have n0_ := Aside0.mk (below_step (by repeat (first | (with_reducible first | exact HB.out | apply below_alloc | apply pw_below_drewN | apply below_drew1) | exact HB.out)) hb); have n1_ := Aside0.mk (hbox); have n2_ := Aside0.mk ((by rw [hg]; exact (below_size (by repeat (first | (with_reducible first | exact HB.out | apply below_alloc | apply pw_below_drewN | apply below_drew1) | exact HB.out))) : w.heap.size ≤ gb193)); have n3_ := Aside0.mk ((by rw [hg]; exact (below_size (by repeat (first | (with_reducible first | exact HB.out | apply below_alloc | apply pw_below_drewN | apply below_drew1) | exact HB.out))) : w.heap.size ≤ gb193)); clear HB; have HB := n0_; have BK193 := n1_; have GW193 := n2_; have GE193 := n3_; clear n0_ n1_ n2_ n3_; clear hb hbox hg) | ((with_reducible refine gate_dst (N := 3) rfl ?_); (try (refine gate_guard (by rfl) ?_; dsimp only)); refine box_event ?hg (N := 3) ?hd (cs := #[.int .u64 a1_0, .int .u64 a1_1]) (t := 49) ?hr ?_; (case hd => rfl); (case hg => rfl); (case hr => first | (go_simp; done) | (go_simp; rfl)); intro gb194 hg w12 hbox hb; have n0_ := Aside0.mk (blk_below (g := gb193) (o := .cells #[.int .u64 a0_0, .int .i64 a0_1, .int .i64 a0_2, .int .i64 a0_3, .slice A0_4 l0_4.length c0_4, .int .u64 a0_5, .bool a0_6] 44 (0, 0)) (by (with_reducible repeat (first | refine blk_drewN ?_ _ | refine blk_drew ?_ | refine blk_alloc ?_ _)); exact BK193.out) hb); have n1_ := Aside0.mk (below_step (by repeat (first | (with_reducible first | exact HB.out | apply below_alloc | apply pw_below_drewN | apply below_drew1 | refine below_set ?_ GE193.out) | exact HB.out)) hb); have n2_ := Aside0.mk (hbox); have n3_ := Aside0.mk ((by rw [hg]; exact (below_size (by repeat (first | (with_reducible first | exact HB.out | apply below_alloc | apply pw_below_drewN | apply below_drew1 | refine below_set ?_ GE193.out) | exact HB.out))) : w.heap.size ≤ gb194)); have n4_ := Aside0.mk ((by rw [hg]; exact (below_size (by repeat (first | (with_reducible first | exact HB.out | apply below_alloc | apply pw_below_drewN | apply below_drew1 | refine below_set ?_ GE193.out) | exact HB.out))) : w.heap.size ≤ gb194)); have n5_ := Aside0.mk ((by rw [hg]; exact Nat.ne_of_lt (blk_lt (g := gb193) (o := .cells #[.int .u64 a0_0, .int .i64 a0_1, .int .i64 a0_2, .int .i64 a0_3, .slice A0_4 l0_4.length c0_4, .int .u64 a0_5, .bool a0_6] 44 (0, 0)) (by (with_reducible repeat (first | refine blk_drewN ?_ _ | refine blk_drew ?_ | refine blk_alloc ?_ _)); exact BK193.out)) : gb193 ≠ gb194)); have n6_ := Aside0.mk ((by rw [hg]; exact Nat.ne_of_gt (blk_lt (g := gb193) (o := .cells #[.int .u64 a0_0, .int .i64 a0_1, .int .i64 a0_2, .int .i64 a0_3, .slice A0_4 l0_4.length c0_4, .int .u64 a0_5, .bool a0_6] 44 (0, 0)) (by (with_reducible repeat (first | refine blk_drewN ?_ _ | refine blk_drew ?_ | refine blk_alloc ?_ _)); exact BK193.out)) : gb194 ≠ gb193)); clear BK193; clear HB; have BK193 := n0_; have HB := n1_; have BK194 := n2_; have GW194 := n3_; have GE194 := n4_; have NB193_194 := n5_; have NB194_193 := n6_; clear n0_ n1_ n2_ n3_ n4_ n5_ n6_; clear hb hbox hg) | ((with_reducible refine gate_callee (f := 18) rfl ?_); refine goesL_ (some 10) rfl rfl Try.func18 (by kernel_rfl) rfl #[] rfl (by (try simp only [List.map_toArray, List.map_cons, List.map_nil]); first | done | rfl | (simp only [List.length_drop, List.length_take]; rfl)) ?_; (with_reducible refine (croftlaw11_awake.calls k  true _ A3.out).mono ?_); rintro e w13 ⟨rfl, hb⟩; refine ⟨_, rfl, ?_⟩; have n0_ := Aside0.mk (blk_below (g := gb193) (o := .cells #[.int .u64 a0_0, .int .i64 a0_1, .int .i64 a0_2, .int .i64 a0_3, .slice A0_4 l0_4.length c0_4, .int .u64 a0_5, .bool a0_6] 44 (0, 0)) (by (with_reducible repeat (first | refine blk_drewN ?_ _ | refine blk_drew ?_ | refine blk_alloc ?_ _)); exact BK193.out) hb); have n1_ := Aside0.mk (blk_below (g := gb194) (o := .cells #[.int .u64 a1_0, .int .u64 a1_1] 49 (0, 0)) (by (with_reducible repeat (first | refine blk_drewN ?_ _ | refine blk_drew ?_ | refine blk_alloc ?_ _)); exact BK194.out) hb); have n2_ := Aside0.mk (below_step (by repeat (first | (with_reducible first | exact HB.out | apply below_alloc | apply pw_below_drewN | apply below_drew1 | refine below_set ?_ GE193.out | refine below_set ?_ GE194.out) | exact HB.out)) hb); clear BK193; clear BK194; clear HB; have BK193 := n0_; have BK194 := n1_; have HB := n2_; clear n0_ n1_ n2_; (try clear hb); (try clear hb2); (try clear hk); (try clear hi); have hnb14 := NB193_194.out; have hnc14 := NB194_193.out; have hcz15_0 : w13.cell? ⟨gb193, 0, none⟩ = some (.int .u64 a0_0) := (blk_cell BK193.out 0).trans rfl; have hcz15_1 : w13.cell? ⟨gb193, 1, none⟩ = some (.int .i64 a0_1) := (blk_cell BK193.out 1).trans rfl; have hcz15_2 : w13.cell? ⟨gb193, 2, none⟩ = some (.int .i64 a0_2) := (blk_cell BK193.out 2).trans rfl; have hcz15_3 : w13.cell? ⟨gb193, 3, none⟩ = some (.int .i64 a0_3) := (blk_cell BK193.out 3).trans rfl; have hcz15_4 : w13.cell? ⟨gb193, 4, none⟩ = some (.slice A0_4 l0_4.length c0_4) := (blk_cell BK193.out 4).trans rfl; have hcz15_5 : w13.cell? ⟨gb193, 5, none⟩ = some (.int .u64 a0_5) := (blk_cell BK193.out 5).trans rfl; have hcz15_6 : w13.cell? ⟨gb193, 6, none⟩ = some (.bool a0_6) := (blk_cell BK193.out 6).trans rfl; have hfz15_0 := blk_frozen BK193.out 0; have hfz15_1 := blk_frozen BK193.out 1; have hfz15_2 := blk_frozen BK193.out 2; have hfz15_3 := blk_frozen BK193.out 3; have hfz15_4 := blk_frozen BK193.out 4; have hfz15_5 := blk_frozen BK193.out 5; have hfz15_6 := blk_frozen BK193.out 6) | ((with_reducible refine gate_callee (f := 13) rfl ?_); refine goesL_ (some 14) rfl rfl Try.func13 (by kernel_rfl) rfl #[.slice A0_4 l0_4.length c0_4] rfl (by (try simp only [List.map_toArray, List.map_cons, List.map_nil]); first | done | rfl | (simp only [List.length_drop, List.length_take]; rfl)) ?_; (with_reducible refine (croftlaw11_blocks.calls k _ _ l0_4 t196 _ ?side1 ?side2 A5.out).mono ?_); (case side1 => repeat (first | exact (Kd.C_below HR0_4.out HB.out) | (with_reducible refine Kd.C_alloc ?_ _) | (with_reducible refine Kd.C_drewN ?_ _) | (with_reducible refine Kd.C_drew ?_))); (case side2 => exact HC0_4.out); rintro e w16 ⟨v197, rfl, ho0, hb⟩; refine ⟨_, rfl, ?_⟩; have n0_ := Aside0.mk (Kd.R_lower ho0 (below_size (by repeat (first | (with_reducible first | exact HB.out | apply below_alloc | apply pw_below_drewN | apply below_drew1 | refine below_set ?_ GE193.out | refine below_set ?_ GE194.out) | exact HB.out)))); have n1_ := Aside0.mk (blk_below (g := gb193) (o := .cells #[.int .u64 a0_0, .int .i64 a0_1, .int .i64 a0_2, .int .i64 a0_3, .slice A0_4 l0_4.length c0_4, .int .u64 a0_5, .bool a0_6] 44 (0, 0)) (by (with_reducible repeat (first | refine blk_drewN ?_ _ | refine blk_drew ?_ | refine blk_alloc ?_ _)); exact BK193.out) hb); have n2_ := Aside0.mk (blk_below (g := gb194) (o := .cells #[.int .u64 a1_0, .int .u64 a1_1] 49 (0, 0)) (by (with_reducible repeat (first | refine blk_drewN ?_ _ | refine blk_drew ?_ | refine blk_alloc ?_ _)); exact BK194.out) hb); have n3_ := Aside0.mk (below_step (by repeat (first | (with_reducible first | exact HB.out | apply below_alloc | apply pw_below_drewN | apply below_drew1 | refine below_set ?_ GE193.out | refine below_set ?_ GE194.out) | exact HB.out)) hb); clear BK193; clear BK194; clear HB; have HO198 := n0_; have BK193 := n1_; have BK194 := n2_; have HB := n3_; clear n0_ n1_ n2_ n3_; (try clear hb); (try clear hb2); (try clear hk); (try clear hi); (try clear ho0); have hcz17_0 : w16.cell? ⟨gb193, 0, none⟩ = some (.int .u64 a0_0) := (blk_cell BK193.out 0).trans rfl; have hcz17_1 : w16.cell? ⟨gb193, 1, none⟩ = some (.int .i64 a0_1) := (blk_cell BK193.out 1).trans rfl; have hcz17_2 : w16.cell? ⟨gb193, 2, none⟩ = some (.int .i64 a0_2) := (blk_cell BK193.out 2).trans rfl; have hcz17_3 : w16.cell? ⟨gb193, 3, none⟩ = some (.int .i64 a0_3) := (blk_cell BK193.out 3).trans rfl; have hcz17_4 : w16.cell? ⟨gb193, 4, none⟩ = some (.slice A0_4 l0_4.length c0_4) := (blk_cell BK193.out 4).trans rfl; have hcz17_5 : w16.cell? ⟨gb193, 5, none⟩ = some (.int .u64 a0_5) := (blk_cell BK193.out 5).trans rfl; have hcz17_6 : w16.cell? ⟨gb193, 6, none⟩ = some (.bool a0_6) := (blk_cell BK193.out 6).trans rfl; have hfz17_0 := blk_frozen BK193.out 0; have hfz17_1 := blk_frozen BK193.out 1; have hfz17_2 := blk_frozen BK193.out 2; have hfz17_3 := blk_frozen BK193.out 3; have hfz17_4 := blk_frozen BK193.out 4; have hfz17_5 := blk_frozen BK193.out 5; have hfz17_6 := blk_frozen BK193.out 6) | ((with_reducible refine gate_callee (f := 15) rfl ?_); refine goesL_ (some 17) rfl rfl Try.func15 (by kernel_rfl) rfl #[.agg #[.int .u64 a0_0, .int .i64 a0_1, .int .i64 a0_2]] rfl (by (try simp only [List.map_toArray, List.map_cons, List.map_nil]); first | done | rfl | (simp only [List.length_drop, List.length_take]; rfl)) ?_; (with_reducible refine (croftlaw11_config.calls a0_0 a0_1 a0_2 t199 t200 t201 _ A6.out).mono ?_); rintro e w18 ⟨rfl, hb⟩; refine ⟨_, rfl, ?_⟩; have n0_ := Aside0.mk (Kd.R_below (by (with_reducible repeat (first | apply Kd.R_alloc | apply Kd.R_drewN | apply Kd.R_drew)); exact HO198.out) hb); have n1_ := Aside0.mk (blk_below (g := gb193) (o := .cells #[.int .u64 a0_0, .int .i64 a0_1, .int .i64 a0_2, .int .i64 a0_3, .slice A0_4 l0_4.length c0_4, .int .u64 a0_5, .bool a0_6] 44 (0, 0)) (by (with_reducible repeat (first | refine blk_drewN ?_ _ | refine blk_drew ?_ | refine blk_alloc ?_ _)); exact BK193.out) hb); have n2_ := Aside0.mk (blk_below (g := gb194) (o := .cells #[.int .u64 a1_0, .int .u64 a1_1] 49 (0, 0)) (by (with_reducible repeat (first | refine blk_drewN ?_ _ | refine blk_drew ?_ | refine blk_alloc ?_ _)); exact BK194.out) hb); have n3_ := Aside0.mk (below_step (by repeat (first | (with_reducible first | exact HB.out | apply below_alloc | apply pw_below_drewN | apply below_drew1 | refine below_set ?_ GE193.out | refine below_set ?_ GE194.out) | exact HB.out)) hb); clear HO198; clear BK193; clear BK194; clear HB; have HO198 := n0_; have BK193 := n1_; have BK194 := n2_; have HB := n3_; clear n0_ n1_ n2_ n3_; (try clear hb); (try clear hb2); (try clear hk); (try clear hi)) | ((with_reducible refine gate_dst (N := 6) rfl ?_); (try (refine gate_guard (by rfl) ?_; dsimp only)); refine box_event ?hg (N := 6) ?hd (cs := #[.int .u64 0, .int .i64 0, .int .i64 0]) (t := 29) ?hr ?_; (case hd => rfl); (case hg => rfl); (case hr => first | (go_simp; done) | (go_simp; rfl)); intro gb202 hg w19 hbox hb; have n0_ := Aside0.mk (Kd.R_below (by (with_reducible repeat (first | apply Kd.R_alloc | apply Kd.R_drewN | apply Kd.R_drew)); exact HO198.out) hb); have n1_ := Aside0.mk (blk_below (g := gb193) (o := .cells #[.int .u64 a0_0, .int .i64 a0_1, .int .i64 a0_2, .int .i64 a0_3, .slice A0_4 l0_4.length c0_4, .int .u64 a0_5, .bool a0_6] 44 (0, 0)) (by (with_reducible repeat (first | refine blk_drewN ?_ _ | refine blk_drew ?_ | refine blk_alloc ?_ _)); exact BK193.out) hb); have n2_ := Aside0.mk (blk_below (g := gb194) (o := .cells #[.int .u64 a1_0, .int .u64 a1_1] 49 (0, 0)) (by (with_reducible repeat (first | refine blk_drewN ?_ _ | refine blk_drew ?_ | refine blk_alloc ?_ _)); exact BK194.out) hb); have n3_ := Aside0.mk (below_step (by repeat (first | (with_reducible first | exact HB.out | apply below_alloc | apply pw_below_drewN | apply below_drew1 | refine below_set ?_ GE193.out | refine below_set ?_ GE194.out) | exact HB.out)) hb); have n4_ := Aside0.mk (hbox); have n5_ := Aside0.mk ((by rw [hg]; exact (below_size (by repeat (first | (with_reducible first | exact HB.out | apply below_alloc | apply pw_below_drewN | apply below_drew1 | refine below_set ?_ GE193.out | refine below_set ?_ GE194.out) | exact HB.out))) : w.heap.size ≤ gb202)); have n6_ := Aside0.mk ((by rw [hg]; exact (below_size (by repeat (first | (with_reducible first | exact HB.out | apply below_alloc | apply pw_below_drewN | apply below_drew1 | refine below_set ?_ GE193.out | refine below_set ?_ GE194.out) | exact HB.out))) : w.heap.size ≤ gb202)); have n7_ := Aside0.mk ((by rw [hg]; exact Nat.ne_of_lt (blk_lt (g := gb193) (o := .cells #[.int .u64 a0_0, .int .i64 a0_1, .int .i64 a0_2, .int .i64 a0_3, .slice A0_4 l0_4.length c0_4, .int .u64 a0_5, .bool a0_6] 44 (0, 0)) (by (with_reducible repeat (first | refine blk_drewN ?_ _ | refine blk_drew ?_ | refine blk_alloc ?_ _)); exact BK193.out)) : gb193 ≠ gb202)); have n8_ := Aside0.mk ((by rw [hg]; exact Nat.ne_of_gt (blk_lt (g := gb193) (o := .cells #[.int .u64 a0_0, .int .i64 a0_1, .int .i64 a0_2, .int .i64 a0_3, .slice A0_4 l0_4.length c0_4, .int .u64 a0_5, .bool a0_6] 44 (0, 0)) (by (with_reducible repeat (first | refine blk_drewN ?_ _ | refine blk_drew ?_ | refine blk_alloc ?_ _)); exact BK193.out)) : gb202 ≠ gb193)); have n9_ := Aside0.mk ((by rw [hg]; exact Nat.ne_of_lt (blk_lt (g := gb194) (o := .cells #[.int .u64 a1_0, .int .u64 a1_1] 49 (0, 0)) (by (with_reducible repeat (first | refine blk_drewN ?_ _ | refine blk_drew ?_ | refine blk_alloc ?_ _)); exact BK194.out)) : gb194 ≠ gb202)); have n10_ := Aside0.mk ((by rw [hg]; exact Nat.ne_of_gt (blk_lt (g := gb194) (o := .cells #[.int .u64 a1_0, .int .u64 a1_1] 49 (0, 0)) (by (with_reducible repeat (first | refine blk_drewN ?_ _ | refine blk_drew ?_ | refine blk_alloc ?_ _)); exact BK194.out)) : gb202 ≠ gb194)); clear HO198; clear BK193; clear BK194; clear HB; have HO198 := n0_; have BK193 := n1_; have BK194 := n2_; have HB := n3_; have BK202 := n4_; have GW202 := n5_; have GE202 := n6_; have NB193_202 := n7_; have NB202_193 := n8_; have NB194_202 := n9_; have NB202_194 := n10_; clear n0_ n1_ n2_ n3_ n4_ n5_ n6_ n7_ n8_ n9_ n10_; clear hb hbox hg; have hnb20 := NB202_193.out; have hnc20 := NB193_202.out; have hnb21 := NB202_194.out; have hnc21 := NB194_202.out; have hcz22_0 : w19.cell? ⟨gb202, 0, none⟩ = some (.int .u64 0) := (blk_cell BK202.out 0).trans rfl; have hcz22_1 : w19.cell? ⟨gb202, 1, none⟩ = some (.int .i64 0) := (blk_cell BK202.out 1).trans rfl; have hcz22_2 : w19.cell? ⟨gb202, 2, none⟩ = some (.int .i64 0) := (blk_cell BK202.out 2).trans rfl; have hfz22_0 := blk_frozen BK202.out 0; have hfz22_1 := blk_frozen BK202.out 1; have hfz22_2 := blk_frozen BK202.out 2))
     have n0_ : Aside0 (Kd.R k55 55 (((w19.setCell ⟨gb202, 0, none⟩ (.int .u64 t199)).setCell ⟨gb202, 1, none⟩ (.int .i64 t200)).setCell ⟨gb202, 2, none⟩ (.int .i64 t201)) w.heap.size (fun _ => True) v197 t196) := ⟨by (with_reducible repeat (first | apply Kd.R_alloc | apply Kd.R_drewN | apply Kd.R_drew)); exact Kd.R_mono (Kd.R_far (p := ⟨gb202, 2, none⟩) (Kd.R_far (p := ⟨gb202, 1, none⟩) (Kd.R_far (p := ⟨gb202, 0, none⟩) (Kd.R_types HO198.out BK202.out (by decide)) (fun _ hk => hk.2) (.int .u64 t199)) (fun _ hk => hk.2) (.int .i64 t200)) (fun _ hk => hk.2) (.int .i64 t201)) (fun _ hk => trivial)⟩
     have n1_ : Aside0 ((((w19.setCell ⟨gb202, 0, none⟩ (.int .u64 t199)).setCell ⟨gb202, 1, none⟩ (.int .i64 t200)).setCell ⟨gb202, 2, none⟩ (.int .i64 t201)).heap[gb193]? = some (.cells #[.int .u64 a0_0, .int .i64 a0_1, .int .i64 a0_2, .int .i64 a0_3, .slice A0_4 l0_4.length c0_4, .int .u64 a0_5, .bool a0_6] 44 (0, 0))) := ⟨by (with_reducible repeat (first | refine blk_drewN ?_ _ | refine blk_drew ?_ | refine blk_alloc ?_ _)); refine blk_far ?_ NB193_202.out _; (with_reducible repeat (first | refine blk_drewN ?_ _ | refine blk_drew ?_ | refine blk_alloc ?_ _)); refine blk_far ?_ NB193_202.out _; (with_reducible repeat (first | refine blk_drewN ?_ _ | refine blk_drew ?_ | refine blk_alloc ?_ _)); refine blk_far ?_ NB193_202.out _; (with_reducible repeat (first | refine blk_drewN ?_ _ | refine blk_drew ?_ | refine blk_alloc ?_ _)); exact BK193.out⟩
     have n2_ : Aside0 ((((w19.setCell ⟨gb202, 0, none⟩ (.int .u64 t199)).setCell ⟨gb202, 1, none⟩ (.int .i64 t200)).setCell ⟨gb202, 2, none⟩ (.int .i64 t201)).heap[gb194]? = some (.cells #[.int .u64 a1_0, .int .u64 a1_1] 49 (0, 0))) := ⟨by (with_reducible repeat (first | refine blk_drewN ?_ _ | refine blk_drew ?_ | refine blk_alloc ?_ _)); refine blk_far ?_ NB194_202.out _; (with_reducible repeat (first | refine blk_drewN ?_ _ | refine blk_drew ?_ | refine blk_alloc ?_ _)); refine blk_far ?_ NB194_202.out _; (with_reducible repeat (first | refine blk_drewN ?_ _ | refine blk_drew ?_ | refine blk_alloc ?_ _)); refine blk_far ?_ NB194_202.out _; (with_reducible repeat (first | refine blk_drewN ?_ _ | refine blk_drew ?_ | refine blk_alloc ?_ _)); exact BK194.out⟩
     have n3_ : Aside0 ((((w19.setCell ⟨gb202, 0, none⟩ (.int .u64 t199)).setCell ⟨gb202, 1, none⟩ (.int .i64 t200)).setCell ⟨gb202, 2, none⟩ (.int .i64 t201)).heap[gb202]? = some (.cells #[.int .u64 t199, .int .i64 t200, .int .i64 t201] 29 (0, 0))) := ⟨by (with_reducible repeat (first | refine blk_drewN ?_ _ | refine blk_drew ?_ | refine blk_alloc ?_ _)); refine blk_put (cs := #[.int .u64 t199, .int .i64 t200, .int .i64 0]) ?_ 2 _ rfl; (with_reducible repeat (first | refine blk_drewN ?_ _ | refine blk_drew ?_ | refine blk_alloc ?_ _)); refine blk_put (cs := #[.int .u64 t199, .int .i64 0, .int .i64 0]) ?_ 1 _ rfl; (with_reducible repeat (first | refine blk_drewN ?_ _ | refine blk_drew ?_ | refine blk_alloc ?_ _)); refine blk_put (cs := #[.int .u64 0, .int .i64 0, .int .i64 0]) ?_ 0 _ rfl; (with_reducible repeat (first | refine blk_drewN ?_ _ | refine blk_drew ?_ | refine blk_alloc ?_ _)); exact BK202.out⟩
     have n4_ : Aside0 (Below w.heap.size w (((w19.setCell ⟨gb202, 0, none⟩ (.int .u64 t199)).setCell ⟨gb202, 1, none⟩ (.int .i64 t200)).setCell ⟨gb202, 2, none⟩ (.int .i64 t201))) := ⟨by repeat (first | (with_reducible first | exact HB.out | apply below_alloc | apply pw_below_drewN | apply below_drew1 | refine below_set ?_ GE193.out | refine below_set ?_ GE194.out | refine below_set ?_ GE202.out) | exact HB.out)⟩
     (try clear HO198)
     (try clear BK193)
     (try clear BK194)
     (try clear BK202)
     (try clear HB)
     generalize (((w19.setCell ⟨gb202, 0, none⟩ (.int .u64 t199)).setCell ⟨gb202, 1, none⟩ (.int .i64 t200)).setCell ⟨gb202, 2, none⟩ (.int .i64 t201)) = w23 at n0_ n1_ n2_ n3_ n4_ ⊢
     have HO198 := n0_
     have BK193 := n1_
     have BK194 := n2_
     have BK202 := n3_
     have HB := n4_
     clear n0_ n1_ n2_ n3_ n4_
     have n0_ := Aside0.mk (Kd.R_drew HO198.out)
     have n1_ := Aside0.mk (blk_drew BK193.out)
     have n2_ := Aside0.mk (blk_drew BK194.out)
     have n3_ := Aside0.mk (blk_drew BK202.out)
     have n4_ := Aside0.mk (below_drew1 HB.out)
     clear HO198
     clear BK193
     clear BK194
     clear BK202
     clear HB
     have HO198 := n0_
     have BK193 := n1_
     have BK194 := n2_
     have BK202 := n3_
     have HB := n4_
     clear n0_ n1_ n2_ n3_ n4_
     obtain ⟨Ao26, co26, eo26⟩ := Kd.R_slice HO198.out
     (first | subst eo26 | (injection eo26 with f1_ f2_ f3_; have f4_ := f1_.symm; have f5_ := f3_.symm; clear f1_ f2_ f3_; subst f4_; subst f5_))
     have q25 : ((l0_4.length : Int) : Int) ≤ ((t196.length : Int) : Int) := of_decide_eq_true (by first | (with_reducible assumption) | assumption)
     obtain ⟨i025, hi025, _, hsz25, _⟩ := info_parts info55
     have hroom25 : t196.length ≤ co26 := (Kd.R_reads' HO198.out).2.1
     have hC25 : Kd.C k55 _ Ao26 t196.length t196 := (Kd.R_reads' HO198.out).2.2
     have hcut25 := cut_to (P := Try.prog) 26 55 .i64 Try.underlying26 hi025 Ao26 t196.length co26 (l0_4.length : Int) (of_decide_eq_true (by first | (with_reducible assumption) | assumption)) q25 hroom25
     have hr25 := Kd.C_take (m := ((l0_4.length : Int) : Int).toNat) hC25 (by omega)
     have hy25 : y203.length = ((l0_4.length : Int) : Int).toNat := (by rw [Ny203.out, List.length_take]; omega)
     rw [← Ny203.out] at hr25
     rw [← hy25] at hcut25
     have HR206 := Aside0.mk hr25
     have HC206 := Aside0.mk (show y203.length ≤ co26 from by omega)
     clear hr25 hC25 hroom25 hi025 hsz25
     have KY25 := Aside0.mk hy25
     clear hy25
     have KL25 := Aside0.mk (show ((l0_4.length : Int) : Int).toNat ≤ t196.length from by omega)
     replace q25 := eq_true q25
     refine start_ (n := 12) (S := fun w' => w'.cell? ⟨gb202, 0, none⟩ = some (.int .u64 t199) ∧ w'.cell? ⟨gb202, 1, none⟩ = some (.int .i64 t200) ∧ w'.cell? ⟨gb202, 2, none⟩ = some (.int .i64 t201) ∧ w'.cell? ⟨gb193, 0, none⟩ = some (.int .u64 a0_0) ∧ w'.cell? ⟨gb193, 1, none⟩ = some (.int .i64 a0_1) ∧ w'.cell? ⟨gb193, 2, none⟩ = some (.int .i64 a0_2) ∧ w'.cell? ⟨gb193, 3, none⟩ = some (.int .i64 a0_3) ∧ w'.cell? ⟨gb193, 4, none⟩ = some (.slice A0_4 l0_4.length c0_4) ∧ w'.cell? ⟨gb193, 5, none⟩ = some (.int .u64 a0_5) ∧ w'.cell? ⟨gb193, 6, none⟩ = some (.bool a0_6)) (ds := []) #[F,F,F,F,F,F,F,F,F,F,F,F] (by kernel_rfl) rfl rfl ⟨(blk_cell BK202.out 0).trans rfl, (blk_cell BK202.out 1).trans rfl, (blk_cell BK202.out 2).trans rfl, (blk_cell BK193.out 0).trans rfl, (blk_cell BK193.out 1).trans rfl, (blk_cell BK193.out 2).trans rfl, (blk_cell BK193.out 3).trans rfl, (blk_cell BK193.out 4).trans rfl, (blk_cell BK193.out 5).trans rfl, (blk_cell BK193.out 6).trans rfl⟩ (fun hHeld => ?_); refine with_tabW croftlaw11_OracleRises.tab5 croftlaw11_OracleRises.bits5 (fun HT_ HW_ => ?_)
     generalize w23.drew = w24 at HO198 BK193 BK194 BK202 HB HR206 hHeld ⊢
     refine pure_ (i := 1) (N := some 19) (v := ?_) (a' := ?_) #[F,T,F,F,F,F,F,F,F,F,F,F] rfl rfl (any_of HT_.out (by kernel_rfl)) (fun _ _ _ h => h) (Or.inl ⟨by rfl, ?_⟩) ?_ ?_
     rotate_left
     ·intro w'
      go_simp
      with_reducible rfl
     rotate_left
     ·simp only [Act.put, Sa, Sb, Sc, i64_w, i32_w]
      rfl
     refine pure_ (i := 3) (N := some 21) (v := ?_) (a' := ?_) #[F,T,F,T,F,F,F,F,F,F,F,F] rfl rfl (any_of HT_.out (by kernel_rfl)) (fun _ _ _ h => h) (Or.inl ⟨by rfl, ?_⟩) ?_ ?_
     rotate_left
     ·intro w'
      go_simp
      with_reducible rfl
     rotate_left
     ·simp only [Act.put, Sa, Sb, Sc, i64_w, i32_w]
      rfl
     refine pure_ (i := 4) (N := some 22) (v := ?_) (a' := ?_) #[F,T,F,T,T,F,F,F,F,F,F,F] rfl rfl (any_of HT_.out (by kernel_rfl)) (fun _ _ _ h => h) (Or.inl ⟨by rfl, ?_⟩) ?_ ?_
     rotate_left
     ·intro w'
      go_simp
      with_reducible rfl
     rotate_left
     ·simp only [Act.put, Sa, Sb, Sc, i64_w, i32_w]
      rfl
     refine pure_ (i := 8) (N := some 26) (v := ?_) (a' := ?_) #[F,T,F,T,T,F,F,F,T,F,F,F] rfl rfl (any_of HT_.out (by kernel_rfl)) (fun _ _ _ h => h) (Or.inl ⟨by rfl, ?_⟩) ?_ ?_
     rotate_left
     ·intro w'
      go_simp
      with_reducible rfl
     rotate_left
     ·simp only [Act.put, Sa, Sb, Sc, i64_w, i32_w]
      rfl
     refine take_ (i := 0) (N := some 18) (v := ?_) (a' := ?_) #[T,T,F,T,T,F,F,F,T,F,F,F] rfl rfl (take_ofW HT_.out HW_.out (by kernel_rfl)) (fun _ _ _ h => h) (Or.inl ⟨by rfl, ?_⟩) hHeld ?_ ?_
     rotate_left
     ·rintro w' ⟨s0, s1, s2, s3, s4, s5, s6, s7, s8, s9⟩
      go_simp
      with_reducible rfl
     rotate_left
     ·simp only [Act.put, Sa, Sb, Sc, i64_w, i32_w]
      rfl
     refine take_ (i := 2) (N := some 20) (v := ?_) (a' := ?_) #[T,T,T,T,T,F,F,F,T,F,F,F] rfl rfl (take_ofW HT_.out HW_.out (by kernel_rfl)) (fun _ _ _ h => h) (Or.inl ⟨by rfl, ?_⟩) hHeld ?_ ?_
     rotate_left
     ·rintro w' ⟨s0, s1, s2, s3, s4, s5, s6, s7, s8, s9⟩
      go_simp
      with_reducible rfl
     rotate_left
     ·simp only [Act.put, Sa, Sb, Sc, i64_w, i32_w]
      rfl
     refine take_ (i := 5) (N := some 23) (v := ?_) (a' := ?_) #[T,T,T,T,T,T,F,F,T,F,F,F] rfl rfl (take_ofW HT_.out HW_.out (by kernel_rfl)) (fun _ _ _ h => h) (Or.inl ⟨by rfl, ?_⟩) hHeld ?_ ?_
     rotate_left
     ·rintro w' ⟨s0, s1, s2, s3, s4, s5, s6, s7, s8, s9⟩
      go_simp
      with_reducible rfl
     rotate_left
     ·simp only [Act.put, Sa, Sb, Sc, i64_w, i32_w]
      rfl
     refine pure_ (i := 6) (N := some 24) (v := ?_) (a' := ?_) #[T,T,T,T,T,T,T,F,T,F,F,F] rfl rfl (any_of HT_.out (by kernel_rfl)) (fun _ _ _ h => h) (Or.inl ⟨by rfl, ?_⟩) ?_ ?_
     rotate_left
     ·intro w'
      go_simp
      with_reducible rfl
     rotate_left
     ·simp only [Act.put, Sa, Sb, Sc, i64_w, i32_w]
      rfl
     refine pure_ (i := 7) (N := some 25) (v := ?_) (a' := ?_) #[T,T,T,T,T,T,T,T,T,F,F,F] rfl rfl (any_of HT_.out (by kernel_rfl)) (fun _ _ _ h => h) (Or.inl ⟨by rfl, ?_⟩) ?_ ?_
     rotate_left
     ·intro w'
      go_simp
      with_reducible rfl
     rotate_left
     ·simp only [Act.put, Sa, Sb, Sc, i64_w, i32_w]
      rfl
     refine take_ (i := 9) (N := some 27) (v := ?_) (a' := ?_) #[T,T,T,T,T,T,T,T,T,T,F,F] rfl rfl (take_ofW HT_.out HW_.out (by kernel_rfl)) (fun _ _ _ h => h) (Or.inl ⟨by rfl, ?_⟩) hHeld ?_ ?_
     rotate_left
     ·rintro w' ⟨s0, s1, s2, s3, s4, s5, s6, s7, s8, s9⟩
      go_simp
      with_reducible rfl
     rotate_left
     ·simp only [Act.put, Sa, Sb, Sc, i64_w, i32_w]
      rfl
     refine one_ (i := 10) (N := some 28) #[T,T,T,T,T,T,T,T,T,T,T,F] rfl rfl (one_of HT_.out (by kernel_rfl)) (by decide) (fun K hK => ?_)
     refine goes_ Try.func23 (by kernel_rfl) rfl #[.agg #[.int .u64 t199, .int .i64 t200, .int .i64 t201], .int .i64 a0_3, .slice Ao26 y203.length co26, .int .u64 a0_5] (by rfl) rfl rfl (by (try simp only [List.map_toArray, List.map_cons, List.map_nil]); first | done | rfl | (simp only [List.length_drop, List.length_take]; rfl)) ?_
     with_reducible refine (oracle_NoFit.calls t199 t200 t201 a0_3 _ _ y203 a0_5 true _ ?side1 ?side2 A9.out).mono ?_
     (case side1 => repeat (first | exact (by repeat (first | (with_reducible exact HR206.out) | (with_reducible refine Kd.C_alloc ?_ _) | (with_reducible refine Kd.C_drewN ?_ _) | (with_reducible refine Kd.C_drew ?_) | exact HR206.out)) | (with_reducible refine Kd.C_alloc ?_ _) | (with_reducible refine Kd.C_drewN ?_ _) | (with_reducible refine Kd.C_drew ?_)))
     (case side2 => exact HC206.out)
     rintro e w27 ⟨rfl, hb⟩
     refine ⟨_, rfl, ?_⟩
     have n0_ := Aside0.mk (Kd.R_below (by (with_reducible repeat (first | apply Kd.R_alloc | apply Kd.R_drewN | apply Kd.R_drew)); exact HO198.out) hb)
     have n1_ := Aside0.mk (blk_below (g := gb193) (o := .cells #[.int .u64 a0_0, .int .i64 a0_1, .int .i64 a0_2, .int .i64 a0_3, .slice A0_4 l0_4.length c0_4, .int .u64 a0_5, .bool a0_6] 44 (0, 0)) (by (with_reducible repeat (first | refine blk_drewN ?_ _ | refine blk_drew ?_ | refine blk_alloc ?_ _)); exact BK193.out) hb)
     have n2_ := Aside0.mk (blk_below (g := gb194) (o := .cells #[.int .u64 a1_0, .int .u64 a1_1] 49 (0, 0)) (by (with_reducible repeat (first | refine blk_drewN ?_ _ | refine blk_drew ?_ | refine blk_alloc ?_ _)); exact BK194.out) hb)
     have n3_ := Aside0.mk (blk_below (g := gb202) (o := .cells #[.int .u64 t199, .int .i64 t200, .int .i64 t201] 29 (0, 0)) (by (with_reducible repeat (first | refine blk_drewN ?_ _ | refine blk_drew ?_ | refine blk_alloc ?_ _)); exact BK202.out) hb)
     have n4_ := Aside0.mk (Kd.C_below (by repeat (first | (with_reducible exact HR206.out) | (with_reducible refine Kd.C_alloc ?_ _) | (with_reducible refine Kd.C_drewN ?_ _) | (with_reducible refine Kd.C_drew ?_) | exact HR206.out)) hb)
     have n5_ := Aside0.mk (below_step (by repeat (first | (with_reducible first | exact HB.out | apply below_alloc | apply pw_below_drewN | apply below_drew1 | refine below_set ?_ GE193.out | refine below_set ?_ GE194.out | refine below_set ?_ GE202.out) | exact HB.out)) hb)
     clear HO198
     clear BK193
     clear BK194
     clear BK202
     clear HR206
     clear HB
     have HO198 := n0_
     have BK193 := n1_
     have BK194 := n2_
     have BK202 := n3_
     have HR206 := n4_
     have HB := n5_
     clear n0_ n1_ n2_ n3_ n4_ n5_
     (try clear hb)
     (try clear hb2)
     (try clear hk)
     (try clear hi)
     refine hK.out _ _ ⟨(blk_cell BK202.out 0).trans rfl, (blk_cell BK202.out 1).trans rfl, (blk_cell BK202.out 2).trans rfl, (blk_cell BK193.out 0).trans rfl, (blk_cell BK193.out 1).trans rfl, (blk_cell BK193.out 2).trans rfl, (blk_cell BK193.out 3).trans rfl, (blk_cell BK193.out 4).trans rfl, (blk_cell BK193.out 5).trans rfl, (blk_cell BK193.out 6).trans rfl⟩ (fun hHeld => ?_)
     clear hK K
     refine norm_ (a' := ?_) ?_ ?_
     rotate_left
     ·show Act.put _ (some 28) _ = _
      simp only [Act.put, Sa, Sb, Sc, i64_w, i32_w]
      rfl
     refine pure_ (i := 11) (N := some 29) (v := ?_) (a' := ?_) #[T,T,T,T,T,T,T,T,T,T,T,T] rfl rfl (any_of HT_.out (by kernel_rfl)) (fun _ _ _ h => h) (Or.inl ⟨by rfl, ?_⟩) ?_ ?_
     rotate_left
     ·intro w'
      go_simp
      with_reducible rfl
     rotate_left
     ·simp only [Act.put, Sa, Sb, Sc, i64_w, i32_w]
      rfl
     refine done_ (done_of HT_.out (by kernel_rfl)) ?_
     have hcz28_0 : w27.cell? ⟨gb193, 0, none⟩ = some (.int .u64 a0_0) := (blk_cell BK193.out 0).trans rfl
     have hcz28_1 : w27.cell? ⟨gb193, 1, none⟩ = some (.int .i64 a0_1) := (blk_cell BK193.out 1).trans rfl
     have hcz28_2 : w27.cell? ⟨gb193, 2, none⟩ = some (.int .i64 a0_2) := (blk_cell BK193.out 2).trans rfl
     have hcz28_3 : w27.cell? ⟨gb193, 3, none⟩ = some (.int .i64 a0_3) := (blk_cell BK193.out 3).trans rfl
     have hcz28_4 : w27.cell? ⟨gb193, 4, none⟩ = some (.slice A0_4 l0_4.length c0_4) := (blk_cell BK193.out 4).trans rfl
     have hcz28_5 : w27.cell? ⟨gb193, 5, none⟩ = some (.int .u64 a0_5) := (blk_cell BK193.out 5).trans rfl
     have hcz28_6 : w27.cell? ⟨gb193, 6, none⟩ = some (.bool a0_6) := (blk_cell BK193.out 6).trans rfl
     have hfz28_0 := blk_frozen BK193.out 0
     have hfz28_1 := blk_frozen BK193.out 1
     have hfz28_2 := blk_frozen BK193.out 2
     have hfz28_3 := blk_frozen BK193.out 3
     have hfz28_4 := blk_frozen BK193.out 4
     have hfz28_5 := blk_frozen BK193.out 5
     have hfz28_6 := blk_frozen BK193.out 6
     try go_wp2
     go_loopg [7] k (fun kq v7 w' => ∃ (x7_1 : Int), v7 = .int .u64 x7_1 ∧ Aside0 (croftlaw11_OracleRises.l0 kq t196 x7_1 a0_0 a0_1 a0_2 a0_3 l0_4 a0_5 a0_6 a1_0 a1_1 t199 t200 t201 = some r) ∧ Aside0 (kq ≤ k) ∧ Aside0 (Kd.R k55 55 w' w.heap.size (fun _ => True) (.slice Ao26 t196.length co26) t196) ∧ Aside0 (w'.heap[gb193]? = some (.cells #[.int .u64 a0_0, .int .i64 a0_1, .int .i64 a0_2, .int .i64 a0_3, (.slice A0_4 l0_4.length c0_4), .int .u64 a0_5, .bool a0_6] 44 (0, 0))) ∧ Aside0 (w'.heap[gb194]? = some (.cells #[.int .u64 a1_0, .int .u64 a1_1] 49 (0, 0))) ∧ Aside0 (w'.heap[gb202]? = some (.cells #[.int .u64 t199, .int .i64 t200, .int .i64 t201] 29 (0, 0))) ∧ Aside0 (Kd.C k55 w' Ao26 y203.length y203) ∧ Aside0 (Below w.heap.size w w'))
     case atStart => exact ⟨(a0_5), (by first | rfl | (simp; done) | (simp [*]; done)), H', ⟨Nat.le_refl _⟩, ⟨by (with_reducible repeat (first | apply Kd.R_alloc | apply Kd.R_drewN | apply Kd.R_drew)); exact HO198.out⟩, ⟨by (with_reducible repeat (first | refine blk_drewN ?_ _ | refine blk_drew ?_ | refine blk_alloc ?_ _)); exact BK193.out⟩, ⟨by (with_reducible repeat (first | refine blk_drewN ?_ _ | refine blk_drew ?_ | refine blk_alloc ?_ _)); exact BK194.out⟩, ⟨by (with_reducible repeat (first | refine blk_drewN ?_ _ | refine blk_drew ?_ | refine blk_alloc ?_ _)); exact BK202.out⟩, ⟨by repeat (first | (with_reducible exact HR206.out) | (with_reducible refine Kd.C_alloc ?_ _) | (with_reducible refine Kd.C_drewN ?_ _) | (with_reducible refine Kd.C_drew ?_) | exact HR206.out)⟩, ⟨by repeat (first | (with_reducible first | exact HB.out | apply below_alloc | apply pw_below_drewN | apply below_drew1 | refine below_set ?_ GE193.out | refine below_set ?_ GE194.out | refine below_set ?_ GE202.out) | exact HB.out)⟩⟩
     case round =>
      clear H'
      try clear c1; try clear c2; try clear p2; try clear q2; try clear c4; try clear c6; try clear c7; try clear c7b0; try clear c7b1; try clear c8; try clear c8b0; try clear c8b1; try clear c10; try clear c13; try clear c14; try clear c15; try clear c18; try clear c20; try clear c21; try clear c23; try clear q25; try clear hcz15_0; try clear hcz15_1; try clear hcz15_2; try clear hcz15_3; try clear hcz15_4; try clear hcz15_5; try clear hcz15_6; try clear hcz17_0; try clear hcz17_1; try clear hcz17_2; try clear hcz17_3; try clear hcz17_4; try clear hcz17_5; try clear hcz17_6; try clear hcz22_0; try clear hcz22_1; try clear hcz22_2; try clear hcz28_0; try clear hcz28_1; try clear hcz28_2; try clear hcz28_3; try clear hcz28_4; try clear hcz28_5; try clear hcz28_6; try clear hfz15_0; try clear hfz15_1; try clear hfz15_2; try clear hfz15_3; try clear hfz15_4; try clear hfz15_5; try clear hfz15_6; try clear hfz17_0; try clear hfz17_1; try clear hfz17_2; try clear hfz17_3; try clear hfz17_4; try clear hfz17_5; try clear hfz17_6; try clear hfz22_0; try clear hfz22_1; try clear hfz22_2; try clear hfz28_0; try clear hfz28_1; try clear hfz28_2; try clear hfz28_3; try clear hfz28_4; try clear hfz28_5; try clear hfz28_6; try clear q25
      obtain ⟨x7_1, rfl, HA, HK1, HO_5, BK193, BK194, BK202, HR206, HB⟩ := hrel
      cases gk with
      | zero => exact absurd HA.out (by simp [croftlaw11_OracleRises.l0])
      | succ k1 =>
       have H := HA.out
       clear HA
       simp only [croftlaw11_OracleRises.l0] at H
       replace H := Option.bind_eq_some_iff.mp H
       obtain ⟨t208, A290, H⟩ := H
       replace H : (if x7_1 ≤ t208 then (if x7_1 ≥ 4096 then (if 0 ≤ (l0_4.length : Int) then (if (l0_4.length : Int) ≤ (t196.length : Int) then ((oracle_NoFit.f t199 t200 t201 a0_3 (t196.take ((l0_4.length : Int) : Int).toNat) x7_1).bind fun t213 => (if t213 = true then (croftlaw11_OracleRises.l0 k1 t196 (IntKind.u64.wrap (x7_1 * 2)) a0_0 a0_1 a0_2 a0_3 l0_4 a0_5 a0_6 a1_0 a1_1 t199 t200 t201) else (some false))) else (none)) else (none)) else (croftlaw11_OracleRises.l0 k1 t196 (IntKind.u64.wrap (x7_1 * 2)) a0_0 a0_1 a0_2 a0_3 l0_4 a0_5 a0_6 a1_0 a1_1 t199 t200 t201)) else ((croftlaw11_turned.f k1 l0_4).bind fun t214 => ((some (([(⟨a1_0, a1_1⟩ : S49)] : List (S49)) : List (S49))).bind fun y217 => (if t214.length + y217.length < 8796093022208 then ((some (t214 ++ y217 : List (S49))).bind fun y220 => ((croftlaw11_blocks.f k1 y220).bind fun t223 => ((croftref11_Sound.f k1 a0_0 a0_1 a0_2 a0_3 y220).bind fun t226 => (if t226 = (-1) then (if a0_5 < 4096 then (some true) else (if 0 ≤ (y220.length : Int) then (if (y220.length : Int) ≤ (t223.length : Int) then ((oracle_NoFit.f t199 t200 t201 a0_3 (t223.take ((y220.length : Int) : Int).toNat) a0_5).bind fun t231 => (some t231)) else (none)) else (none))) else (some true))))) else (none))))) = some r := H
       have A29 := Aside0.mk A290
       clear A290
       by_cases c30 : x7_1 ≤ t208
       ·rw [if_pos c30] at H
        have c30b0 : decide (x7_1 ≤ t208) = true := decide_eq_true c30
        clear c30
        by_cases c31 : x7_1 ≥ 4096
        ·rw [if_pos c31] at H
         have c31b0 : decide (4096 ≤ x7_1) = true := decide_eq_true c31
         clear c31
         by_cases c32 : 0 ≤ (l0_4.length : Int)
         ·rw [if_pos c32] at H
          have c32b0 := eq_true c32
          have c32b1 : decide (0 ≤ (l0_4.length : Int)) = true := decide_eq_true c32
          clear c32
          by_cases c33 : (l0_4.length : Int) ≤ (t196.length : Int)
          ·rw [if_pos c33] at H
           have c33b0 := eq_true c33
           have c33b1 : decide ((l0_4.length : Int) ≤ (t196.length : Int)) = true := decide_eq_true c33
           clear c33
           obtain ⟨y209, hy209⟩ : ∃ y_ : List (S55), y_ = (t196.take ((l0_4.length : Int) : Int).toNat) := ⟨_, rfl⟩
           replace H : ((oracle_NoFit.f t199 t200 t201 a0_3 y209 x7_1).bind fun t213 => (if t213 = true then (croftlaw11_OracleRises.l0 k1 t196 (IntKind.u64.wrap (x7_1 * 2)) a0_0 a0_1 a0_2 a0_3 l0_4 a0_5 a0_6 a1_0 a1_1 t199 t200 t201) else (some false))) = some r := by first | (rw [hy209]; with_reducible exact H) | (have H2_ := (Option.bind_some _ _).symm.trans H; rw [hy209]; with_reducible exact H2_) | (have H2_ := (Option.bind_some _ _).symm.trans H; with_reducible exact H2_) | with_reducible exact H | (rw [hy209]; exact H) | exact H
           have Ny209 := Aside0.mk hy209
           clear hy209
           replace H := Option.bind_eq_some_iff.mp H
           obtain ⟨t213, A340, H⟩ := H
           replace H : (if t213 = true then (croftlaw11_OracleRises.l0 k1 t196 (IntKind.u64.wrap (x7_1 * 2)) a0_0 a0_1 a0_2 a0_3 l0_4 a0_5 a0_6 a1_0 a1_1 t199 t200 t201) else (some false)) = some r := H
           have A34 := Aside0.mk A340
           clear A340
           by_cases c35 : t213 = true
           ·subst c35
            have H1 : (croftlaw11_OracleRises.l0 k1 t196 (IntKind.u64.wrap (x7_1 * 2)) a0_0 a0_1 a0_2 a0_3 l0_4 a0_5 a0_6 a1_0 a1_1 t199 t200 t201) = some r := by rw [if_pos rfl] at H; exact H
            clear H
            have H := H1
            clear H1
            have H' := Aside0.mk H
            clear H
            have hnb36 := NB193_194.out
            have hnc36 := NB194_193.out
            have hnb37 := NB193_202.out
            have hnc37 := NB202_193.out
            have hcz38_0 : wr.cell? ⟨gb193, 0, none⟩ = some (.int .u64 a0_0) := (blk_cell BK193.out 0).trans rfl
            have hcz38_1 : wr.cell? ⟨gb193, 1, none⟩ = some (.int .i64 a0_1) := (blk_cell BK193.out 1).trans rfl
            have hcz38_2 : wr.cell? ⟨gb193, 2, none⟩ = some (.int .i64 a0_2) := (blk_cell BK193.out 2).trans rfl
            have hcz38_3 : wr.cell? ⟨gb193, 3, none⟩ = some (.int .i64 a0_3) := (blk_cell BK193.out 3).trans rfl
            have hcz38_4 : wr.cell? ⟨gb193, 4, none⟩ = some (.slice A0_4 l0_4.length c0_4) := (blk_cell BK193.out 4).trans rfl
            have hcz38_5 : wr.cell? ⟨gb193, 5, none⟩ = some (.int .u64 a0_5) := (blk_cell BK193.out 5).trans rfl
            have hcz38_6 : wr.cell? ⟨gb193, 6, none⟩ = some (.bool a0_6) := (blk_cell BK193.out 6).trans rfl
            have hfz38_0 := blk_frozen BK193.out 0
            have hfz38_1 := blk_frozen BK193.out 1
            have hfz38_2 := blk_frozen BK193.out 2
            have hfz38_3 := blk_frozen BK193.out 3
            have hfz38_4 := blk_frozen BK193.out 4
            have hfz38_5 := blk_frozen BK193.out 5
            have hfz38_6 := blk_frozen BK193.out 6
            try go_wp2_with (first | ((with_reducible refine gate_callee (f := 24) rfl ?_); refine goesL_ (some 35) rfl rfl Try.func24 (by kernel_rfl) rfl #[.agg #[.int .u64 a0_0, .int .i64 a0_1, .int .i64 a0_2]] rfl (by (try simp only [List.map_toArray, List.map_cons, List.map_nil]); first | done | rfl | (simp only [List.length_drop, List.length_take]; rfl)) ?_; (with_reducible refine (croftref11_R.calls a0_0 a0_1 a0_2 t208 _ A29.out).mono ?_); rintro e w39 ⟨rfl, hb⟩; refine ⟨_, rfl, ?_⟩; have n0_ := Aside0.mk (Kd.R_below (by (with_reducible repeat (first | apply Kd.R_alloc | apply Kd.R_drewN | apply Kd.R_drew)); exact HO_5.out) hb); have n1_ := Aside0.mk (blk_below (g := gb193) (o := .cells #[.int .u64 a0_0, .int .i64 a0_1, .int .i64 a0_2, .int .i64 a0_3, .slice A0_4 l0_4.length c0_4, .int .u64 a0_5, .bool a0_6] 44 (0, 0)) (by (with_reducible repeat (first | refine blk_drewN ?_ _ | refine blk_drew ?_ | refine blk_alloc ?_ _)); exact BK193.out) hb); have n2_ := Aside0.mk (blk_below (g := gb194) (o := .cells #[.int .u64 a1_0, .int .u64 a1_1] 49 (0, 0)) (by (with_reducible repeat (first | refine blk_drewN ?_ _ | refine blk_drew ?_ | refine blk_alloc ?_ _)); exact BK194.out) hb); have n3_ := Aside0.mk (blk_below (g := gb202) (o := .cells #[.int .u64 t199, .int .i64 t200, .int .i64 t201] 29 (0, 0)) (by (with_reducible repeat (first | refine blk_drewN ?_ _ | refine blk_drew ?_ | refine blk_alloc ?_ _)); exact BK202.out) hb); have n4_ := Aside0.mk (Kd.C_below (by repeat (first | (with_reducible exact HR206.out) | (with_reducible refine Kd.C_alloc ?_ _) | (with_reducible refine Kd.C_drewN ?_ _) | (with_reducible refine Kd.C_drew ?_) | exact HR206.out)) hb); have n5_ := Aside0.mk (below_step (by repeat (first | (with_reducible first | exact HB.out | apply below_alloc | apply pw_below_drewN | apply below_drew1 | refine below_set ?_ GE193.out | refine below_set ?_ GE194.out | refine below_set ?_ GE202.out) | exact HB.out)) hb); clear HO_5; clear BK193; clear BK194; clear BK202; clear HR206; clear HB; have HO_5 := n0_; have BK193 := n1_; have BK194 := n2_; have BK202 := n3_; have HR206 := n4_; have HB := n5_; clear n0_ n1_ n2_ n3_ n4_ n5_; (try clear hb); (try clear hb2); (try clear hk); (try clear hi)))
            have n0_ := Aside0.mk (Kd.R_drew HO_5.out)
            have n1_ := Aside0.mk (blk_drew BK193.out)
            have n2_ := Aside0.mk (blk_drew BK194.out)
            have n3_ := Aside0.mk (blk_drew BK202.out)
            have n4_ := Aside0.mk (Kd.C_drew HR206.out)
            have n5_ := Aside0.mk (below_drew1 HB.out)
            clear HO_5
            clear BK193
            clear BK194
            clear BK202
            clear HR206
            clear HB
            have HO_5 := n0_
            have BK193 := n1_
            have BK194 := n2_
            have BK202 := n3_
            have HR206 := n4_
            have HB := n5_
            clear n0_ n1_ n2_ n3_ n4_ n5_
            have q41 : ((l0_4.length : Int) : Int) ≤ ((t196.length : Int) : Int) := of_decide_eq_true (by first | (with_reducible assumption) | assumption)
            obtain ⟨i041, hi041, _, hsz41, _⟩ := info_parts info55
            have hroom41 : t196.length ≤ co26 := (Kd.R_reads' HO_5.out).2.1
            have hC41 : Kd.C k55 _ Ao26 t196.length t196 := (Kd.R_reads' HO_5.out).2.2
            have hcut41 := cut_to (P := Try.prog) 26 55 .i64 Try.underlying26 hi041 Ao26 t196.length co26 (l0_4.length : Int) (of_decide_eq_true (by first | (with_reducible assumption) | assumption)) q41 hroom41
            have hr41 := Kd.C_take (m := ((l0_4.length : Int) : Int).toNat) hC41 (by omega)
            have hy41 : y209.length = ((l0_4.length : Int) : Int).toNat := (by rw [Ny209.out, List.length_take]; omega)
            rw [← Ny209.out] at hr41
            rw [← hy41] at hcut41
            have HR212 := Aside0.mk hr41
            have HC212 := Aside0.mk (show y209.length ≤ co26 from by omega)
            clear hr41 hC41 hroom41 hi041 hsz41
            have KY41 := Aside0.mk hy41
            clear hy41
            have KL41 := Aside0.mk (show ((l0_4.length : Int) : Int).toNat ≤ t196.length from by omega)
            replace q41 := eq_true q41
            refine start_ (n := 15) (S := fun w' => w'.cell? ⟨gb202, 0, none⟩ = some (.int .u64 t199) ∧ w'.cell? ⟨gb202, 1, none⟩ = some (.int .i64 t200) ∧ w'.cell? ⟨gb202, 2, none⟩ = some (.int .i64 t201) ∧ w'.cell? ⟨gb193, 0, none⟩ = some (.int .u64 a0_0) ∧ w'.cell? ⟨gb193, 1, none⟩ = some (.int .i64 a0_1) ∧ w'.cell? ⟨gb193, 2, none⟩ = some (.int .i64 a0_2) ∧ w'.cell? ⟨gb193, 3, none⟩ = some (.int .i64 a0_3) ∧ w'.cell? ⟨gb193, 4, none⟩ = some (.slice A0_4 l0_4.length c0_4) ∧ w'.cell? ⟨gb193, 5, none⟩ = some (.int .u64 a0_5) ∧ w'.cell? ⟨gb193, 6, none⟩ = some (.bool a0_6)) (ds := []) #[F,F,F,F,F,F,F,F,F,F,F,F,F,F,F] (by kernel_rfl) rfl rfl ⟨(blk_cell BK202.out 0).trans rfl, (blk_cell BK202.out 1).trans rfl, (blk_cell BK202.out 2).trans rfl, (blk_cell BK193.out 0).trans rfl, (blk_cell BK193.out 1).trans rfl, (blk_cell BK193.out 2).trans rfl, (blk_cell BK193.out 3).trans rfl, (blk_cell BK193.out 4).trans rfl, (blk_cell BK193.out 5).trans rfl, (blk_cell BK193.out 6).trans rfl⟩ (fun hHeld => ?_); refine with_tabW croftlaw11_OracleRises.tab10 croftlaw11_OracleRises.bits10 (fun HT_ HW_ => ?_)
            generalize w39.drew = w40 at HO_5 BK193 BK194 BK202 HR206 HB HR212 hHeld ⊢
            refine pure_ (i := 0) (N := some 39) (v := ?_) (a' := ?_) #[T,F,F,F,F,F,F,F,F,F,F,F,F,F,F] rfl rfl (any_of HT_.out (by kernel_rfl)) (fun _ _ _ h => h) (Or.inl ⟨by rfl, ?_⟩) ?_ ?_
            rotate_left
            ·intro w'
             go_simp
             with_reducible rfl
            rotate_left
            ·simp only [Act.put, Sa, Sb, Sc, i64_w, i32_w]
             rfl
            refine pure_ (i := 1) (N := some 40) (v := ?_) (a' := ?_) #[T,T,F,F,F,F,F,F,F,F,F,F,F,F,F] rfl rfl (any_of HT_.out (by kernel_rfl)) (fun _ _ _ h => h) (Or.inl ⟨by rfl, ?_⟩) ?_ ?_
            rotate_left
            ·intro w'
             go_simp
             with_reducible rfl
            rotate_left
            ·simp only [Act.put, Sa, Sb, Sc, i64_w, i32_w]
             rfl
            refine pure_ (i := 2) (N := some 41) (v := ?_) (a' := ?_) #[T,T,T,F,F,F,F,F,F,F,F,F,F,F,F] rfl rfl (any_of HT_.out (by kernel_rfl)) (fun _ _ _ h => h) (Or.inl ⟨by rfl, ?_⟩) ?_ ?_
            rotate_left
            ·intro w'
             go_simp
             with_reducible rfl
            rotate_left
            ·simp only [Act.put, Sa, Sb, Sc, i64_w, i32_w]
             rfl
            refine pure_ (i := 4) (N := some 43) (v := ?_) (a' := ?_) #[T,T,T,F,T,F,F,F,F,F,F,F,F,F,F] rfl rfl (any_of HT_.out (by kernel_rfl)) (fun _ _ _ h => h) (Or.inl ⟨by rfl, ?_⟩) ?_ ?_
            rotate_left
            ·intro w'
             go_simp
             with_reducible rfl
            rotate_left
            ·simp only [Act.put, Sa, Sb, Sc, i64_w, i32_w]
             rfl
            refine pure_ (i := 6) (N := some 45) (v := ?_) (a' := ?_) #[T,T,T,F,T,F,T,F,F,F,F,F,F,F,F] rfl rfl (any_of HT_.out (by kernel_rfl)) (fun _ _ _ h => h) (Or.inl ⟨by rfl, ?_⟩) ?_ ?_
            rotate_left
            ·intro w'
             go_simp
             with_reducible rfl
            rotate_left
            ·simp only [Act.put, Sa, Sb, Sc, i64_w, i32_w]
             rfl
            refine pure_ (i := 7) (N := some 46) (v := ?_) (a' := ?_) #[T,T,T,F,T,F,T,T,F,F,F,F,F,F,F] rfl rfl (any_of HT_.out (by kernel_rfl)) (fun _ _ _ h => h) (Or.inl ⟨by rfl, ?_⟩) ?_ ?_
            rotate_left
            ·intro w'
             go_simp
             with_reducible rfl
            rotate_left
            ·simp only [Act.put, Sa, Sb, Sc, i64_w, i32_w]
             rfl
            refine pure_ (i := 11) (N := some 50) (v := ?_) (a' := ?_) #[T,T,T,F,T,F,T,T,F,F,F,T,F,F,F] rfl rfl (any_of HT_.out (by kernel_rfl)) (fun _ _ _ h => h) (Or.inl ⟨by rfl, ?_⟩) ?_ ?_
            rotate_left
            ·intro w'
             go_simp
             with_reducible rfl
            rotate_left
            ·simp only [Act.put, Sa, Sb, Sc, i64_w, i32_w]
             rfl
            refine take_ (i := 3) (N := some 42) (v := ?_) (a' := ?_) #[T,T,T,T,T,F,T,T,F,F,F,T,F,F,F] rfl rfl (take_ofW HT_.out HW_.out (by kernel_rfl)) (fun _ _ _ h => h) (Or.inl ⟨by rfl, ?_⟩) hHeld ?_ ?_
            rotate_left
            ·rintro w' ⟨s0, s1, s2, s3, s4, s5, s6, s7, s8, s9⟩
             go_simp
             with_reducible rfl
            rotate_left
            ·simp only [Act.put, Sa, Sb, Sc, i64_w, i32_w]
             rfl
            refine take_ (i := 5) (N := some 44) (v := ?_) (a' := ?_) #[T,T,T,T,T,T,T,T,F,F,F,T,F,F,F] rfl rfl (take_ofW HT_.out HW_.out (by kernel_rfl)) (fun _ _ _ h => h) (Or.inl ⟨by rfl, ?_⟩) hHeld ?_ ?_
            rotate_left
            ·rintro w' ⟨s0, s1, s2, s3, s4, s5, s6, s7, s8, s9⟩
             go_simp
             with_reducible rfl
            rotate_left
            ·simp only [Act.put, Sa, Sb, Sc, i64_w, i32_w]
             rfl
            refine take_ (i := 8) (N := some 47) (v := ?_) (a' := ?_) #[T,T,T,T,T,T,T,T,T,F,F,T,F,F,F] rfl rfl (take_ofW HT_.out HW_.out (by kernel_rfl)) (fun _ _ _ h => h) (Or.inl ⟨by rfl, ?_⟩) hHeld ?_ ?_
            rotate_left
            ·rintro w' ⟨s0, s1, s2, s3, s4, s5, s6, s7, s8, s9⟩
             go_simp
             with_reducible rfl
            rotate_left
            ·simp only [Act.put, Sa, Sb, Sc, i64_w, i32_w]
             rfl
            refine pure_ (i := 9) (N := some 48) (v := ?_) (a' := ?_) #[T,T,T,T,T,T,T,T,T,T,F,T,F,F,F] rfl rfl (any_of HT_.out (by kernel_rfl)) (fun _ _ _ h => h) (Or.inl ⟨by rfl, ?_⟩) ?_ ?_
            rotate_left
            ·intro w'
             go_simp
             with_reducible rfl
            rotate_left
            ·simp only [Act.put, Sa, Sb, Sc, i64_w, i32_w]
             rfl
            refine pure_ (i := 10) (N := some 49) (v := ?_) (a' := ?_) #[T,T,T,T,T,T,T,T,T,T,T,T,F,F,F] rfl rfl (any_of HT_.out (by kernel_rfl)) (fun _ _ _ h => h) (Or.inl ⟨by rfl, ?_⟩) ?_ ?_
            rotate_left
            ·intro w'
             go_simp
             with_reducible rfl
            rotate_left
            ·simp only [Act.put, Sa, Sb, Sc, i64_w, i32_w]
             rfl
            refine one_ (i := 12) (N := some 51) #[T,T,T,T,T,T,T,T,T,T,T,T,T,F,F] rfl rfl (one_of HT_.out (by kernel_rfl)) (by decide) (fun K hK => ?_)
            refine goes_ Try.func23 (by kernel_rfl) rfl #[.agg #[.int .u64 t199, .int .i64 t200, .int .i64 t201], .int .i64 a0_3, .slice Ao26 y209.length co26, .int .u64 x7_1] (by rfl) rfl rfl (by (try simp only [List.map_toArray, List.map_cons, List.map_nil]); first | done | rfl | (rw [show y209.length = y203.length from by rw [Ny209.out, Ny203.out]]; rfl) | (simp only [List.length_drop, List.length_take]; rfl)) ?_
            with_reducible refine (oracle_NoFit.calls t199 t200 t201 a0_3 _ _ y209 x7_1 true _ ?side1 ?side2 A34.out).mono ?_
            (case side1 => repeat (first | exact (by repeat (first | (with_reducible exact HR212.out) | (with_reducible refine Kd.C_alloc ?_ _) | (with_reducible refine Kd.C_drewN ?_ _) | (with_reducible refine Kd.C_drew ?_) | exact HR212.out)) | (with_reducible refine Kd.C_alloc ?_ _) | (with_reducible refine Kd.C_drewN ?_ _) | (with_reducible refine Kd.C_drew ?_)))
            (case side2 => exact HC212.out)
            rintro e w42 ⟨rfl, hb⟩
            refine ⟨_, rfl, ?_⟩
            have n0_ := Aside0.mk (Kd.R_below (by (with_reducible repeat (first | apply Kd.R_alloc | apply Kd.R_drewN | apply Kd.R_drew)); exact HO_5.out) hb)
            have n1_ := Aside0.mk (blk_below (g := gb193) (o := .cells #[.int .u64 a0_0, .int .i64 a0_1, .int .i64 a0_2, .int .i64 a0_3, .slice A0_4 l0_4.length c0_4, .int .u64 a0_5, .bool a0_6] 44 (0, 0)) (by (with_reducible repeat (first | refine blk_drewN ?_ _ | refine blk_drew ?_ | refine blk_alloc ?_ _)); exact BK193.out) hb)
            have n2_ := Aside0.mk (blk_below (g := gb194) (o := .cells #[.int .u64 a1_0, .int .u64 a1_1] 49 (0, 0)) (by (with_reducible repeat (first | refine blk_drewN ?_ _ | refine blk_drew ?_ | refine blk_alloc ?_ _)); exact BK194.out) hb)
            have n3_ := Aside0.mk (blk_below (g := gb202) (o := .cells #[.int .u64 t199, .int .i64 t200, .int .i64 t201] 29 (0, 0)) (by (with_reducible repeat (first | refine blk_drewN ?_ _ | refine blk_drew ?_ | refine blk_alloc ?_ _)); exact BK202.out) hb)
            have n4_ := Aside0.mk (Kd.C_below (by repeat (first | (with_reducible exact HR206.out) | (with_reducible refine Kd.C_alloc ?_ _) | (with_reducible refine Kd.C_drewN ?_ _) | (with_reducible refine Kd.C_drew ?_) | exact HR206.out)) hb)
            have n5_ := Aside0.mk (Kd.C_below (by repeat (first | (with_reducible exact HR212.out) | (with_reducible refine Kd.C_alloc ?_ _) | (with_reducible refine Kd.C_drewN ?_ _) | (with_reducible refine Kd.C_drew ?_) | exact HR212.out)) hb)
            have n6_ := Aside0.mk (below_step (by repeat (first | (with_reducible first | exact HB.out | apply below_alloc | apply pw_below_drewN | apply below_drew1 | refine below_set ?_ GE193.out | refine below_set ?_ GE194.out | refine below_set ?_ GE202.out) | exact HB.out)) hb)
            clear HO_5
            clear BK193
            clear BK194
            clear BK202
            clear HR206
            clear HR212
            clear HB
            have HO_5 := n0_
            have BK193 := n1_
            have BK194 := n2_
            have BK202 := n3_
            have HR206 := n4_
            have HR212 := n5_
            have HB := n6_
            clear n0_ n1_ n2_ n3_ n4_ n5_ n6_
            (try clear hb)
            (try clear hb2)
            (try clear hk)
            (try clear hi)
            refine hK.out _ _ ⟨(blk_cell BK202.out 0).trans rfl, (blk_cell BK202.out 1).trans rfl, (blk_cell BK202.out 2).trans rfl, (blk_cell BK193.out 0).trans rfl, (blk_cell BK193.out 1).trans rfl, (blk_cell BK193.out 2).trans rfl, (blk_cell BK193.out 3).trans rfl, (blk_cell BK193.out 4).trans rfl, (blk_cell BK193.out 5).trans rfl, (blk_cell BK193.out 6).trans rfl⟩ (fun hHeld => ?_)
            clear hK K
            refine norm_ (a' := ?_) ?_ ?_
            rotate_left
            ·show Act.put _ (some 51) _ = _
             simp only [Act.put, Sa, Sb, Sc, i64_w, i32_w]
             rfl
            refine pure_ (i := 13) (N := some 52) (v := ?_) (a' := ?_) #[T,T,T,T,T,T,T,T,T,T,T,T,T,T,F] rfl rfl (any_of HT_.out (by kernel_rfl)) (fun _ _ _ h => h) (Or.inl ⟨by rfl, ?_⟩) ?_ ?_
            rotate_left
            ·intro w'
             go_simp
             with_reducible rfl
            rotate_left
            ·simp only [Act.put, Sa, Sb, Sc, i64_w, i32_w]
             rfl
            refine pure_ (i := 14) (N := some 53) (v := ?_) (a' := ?_) #[T,T,T,T,T,T,T,T,T,T,T,T,T,T,T] rfl rfl (any_of HT_.out (by kernel_rfl)) (fun _ _ _ h => h) (Or.inl ⟨by rfl, ?_⟩) ?_ ?_
            rotate_left
            ·intro w'
             go_simp
             with_reducible rfl
            rotate_left
            ·simp only [Act.put, Sa, Sb, Sc, i64_w, i32_w]
             rfl
            refine done_ (done_of HT_.out (by kernel_rfl)) ?_
            try go_wp2
            go_roundg k1
            case measure => have := HK1.out; omega
            case rel => exact ⟨(IntKind.u64.wrap (x7_1 * 2)), (by first | rfl | (simp; done) | (simp [*]; done)), H', ⟨by have := HK1.out; omega⟩, ⟨by (with_reducible repeat (first | apply Kd.R_alloc | apply Kd.R_drewN | apply Kd.R_drew)); exact HO_5.out⟩, ⟨by (with_reducible repeat (first | refine blk_drewN ?_ _ | refine blk_drew ?_ | refine blk_alloc ?_ _)); exact BK193.out⟩, ⟨by (with_reducible repeat (first | refine blk_drewN ?_ _ | refine blk_drew ?_ | refine blk_alloc ?_ _)); exact BK194.out⟩, ⟨by (with_reducible repeat (first | refine blk_drewN ?_ _ | refine blk_drew ?_ | refine blk_alloc ?_ _)); exact BK202.out⟩, ⟨by repeat (first | (with_reducible exact HR206.out) | (with_reducible refine Kd.C_alloc ?_ _) | (with_reducible refine Kd.C_drewN ?_ _) | (with_reducible refine Kd.C_drew ?_) | exact HR206.out)⟩, ⟨by repeat (first | (with_reducible first | exact HB.out | apply below_alloc | apply pw_below_drewN | apply below_drew1 | refine below_set ?_ GE193.out | refine below_set ?_ GE194.out | refine below_set ?_ GE202.out) | exact HB.out)⟩⟩
           ·replace c35 := Bool.eq_false_iff.mpr c35
            subst c35
            have H1 : (some false) = some r := by rw [if_neg (show ¬ (false = true) by decide)] at H; exact H
            clear H
            have H := H1
            clear H1
            obtain rfl := Option.some.inj H
            have hnb43 := NB193_194.out
            have hnc43 := NB194_193.out
            have hnb44 := NB193_202.out
            have hnc44 := NB202_193.out
            have hcz45_0 : wr.cell? ⟨gb193, 0, none⟩ = some (.int .u64 a0_0) := (blk_cell BK193.out 0).trans rfl
            have hcz45_1 : wr.cell? ⟨gb193, 1, none⟩ = some (.int .i64 a0_1) := (blk_cell BK193.out 1).trans rfl
            have hcz45_2 : wr.cell? ⟨gb193, 2, none⟩ = some (.int .i64 a0_2) := (blk_cell BK193.out 2).trans rfl
            have hcz45_3 : wr.cell? ⟨gb193, 3, none⟩ = some (.int .i64 a0_3) := (blk_cell BK193.out 3).trans rfl
            have hcz45_4 : wr.cell? ⟨gb193, 4, none⟩ = some (.slice A0_4 l0_4.length c0_4) := (blk_cell BK193.out 4).trans rfl
            have hcz45_5 : wr.cell? ⟨gb193, 5, none⟩ = some (.int .u64 a0_5) := (blk_cell BK193.out 5).trans rfl
            have hcz45_6 : wr.cell? ⟨gb193, 6, none⟩ = some (.bool a0_6) := (blk_cell BK193.out 6).trans rfl
            have hfz45_0 := blk_frozen BK193.out 0
            have hfz45_1 := blk_frozen BK193.out 1
            have hfz45_2 := blk_frozen BK193.out 2
            have hfz45_3 := blk_frozen BK193.out 3
            have hfz45_4 := blk_frozen BK193.out 4
            have hfz45_5 := blk_frozen BK193.out 5
            have hfz45_6 := blk_frozen BK193.out 6
            try go_wp2_with (first | ((with_reducible refine gate_callee (f := 24) rfl ?_); refine goesL_ (some 35) rfl rfl Try.func24 (by kernel_rfl) rfl #[.agg #[.int .u64 a0_0, .int .i64 a0_1, .int .i64 a0_2]] rfl (by (try simp only [List.map_toArray, List.map_cons, List.map_nil]); first | done | rfl | (simp only [List.length_drop, List.length_take]; rfl)) ?_; (with_reducible refine (croftref11_R.calls a0_0 a0_1 a0_2 t208 _ A29.out).mono ?_); rintro e w46 ⟨rfl, hb⟩; refine ⟨_, rfl, ?_⟩; have n0_ := Aside0.mk (Kd.R_below (by (with_reducible repeat (first | apply Kd.R_alloc | apply Kd.R_drewN | apply Kd.R_drew)); exact HO_5.out) hb); have n1_ := Aside0.mk (blk_below (g := gb193) (o := .cells #[.int .u64 a0_0, .int .i64 a0_1, .int .i64 a0_2, .int .i64 a0_3, .slice A0_4 l0_4.length c0_4, .int .u64 a0_5, .bool a0_6] 44 (0, 0)) (by (with_reducible repeat (first | refine blk_drewN ?_ _ | refine blk_drew ?_ | refine blk_alloc ?_ _)); exact BK193.out) hb); have n2_ := Aside0.mk (blk_below (g := gb194) (o := .cells #[.int .u64 a1_0, .int .u64 a1_1] 49 (0, 0)) (by (with_reducible repeat (first | refine blk_drewN ?_ _ | refine blk_drew ?_ | refine blk_alloc ?_ _)); exact BK194.out) hb); have n3_ := Aside0.mk (blk_below (g := gb202) (o := .cells #[.int .u64 t199, .int .i64 t200, .int .i64 t201] 29 (0, 0)) (by (with_reducible repeat (first | refine blk_drewN ?_ _ | refine blk_drew ?_ | refine blk_alloc ?_ _)); exact BK202.out) hb); have n4_ := Aside0.mk (Kd.C_below (by repeat (first | (with_reducible exact HR206.out) | (with_reducible refine Kd.C_alloc ?_ _) | (with_reducible refine Kd.C_drewN ?_ _) | (with_reducible refine Kd.C_drew ?_) | exact HR206.out)) hb); have n5_ := Aside0.mk (below_step (by repeat (first | (with_reducible first | exact HB.out | apply below_alloc | apply pw_below_drewN | apply below_drew1 | refine below_set ?_ GE193.out | refine below_set ?_ GE194.out | refine below_set ?_ GE202.out) | exact HB.out)) hb); clear HO_5; clear BK193; clear BK194; clear BK202; clear HR206; clear HB; have HO_5 := n0_; have BK193 := n1_; have BK194 := n2_; have BK202 := n3_; have HR206 := n4_; have HB := n5_; clear n0_ n1_ n2_ n3_ n4_ n5_; (try clear hb); (try clear hb2); (try clear hk); (try clear hi)))
            have n0_ := Aside0.mk (Kd.R_drew HO_5.out)
            have n1_ := Aside0.mk (blk_drew BK193.out)
            have n2_ := Aside0.mk (blk_drew BK194.out)
            have n3_ := Aside0.mk (blk_drew BK202.out)
            have n4_ := Aside0.mk (Kd.C_drew HR206.out)
            have n5_ := Aside0.mk (below_drew1 HB.out)
            clear HO_5
            clear BK193
            clear BK194
            clear BK202
            clear HR206
            clear HB
            have HO_5 := n0_
            have BK193 := n1_
            have BK194 := n2_
            have BK202 := n3_
            have HR206 := n4_
            have HB := n5_
            clear n0_ n1_ n2_ n3_ n4_ n5_
            have q48 : ((l0_4.length : Int) : Int) ≤ ((t196.length : Int) : Int) := of_decide_eq_true (by first | (with_reducible assumption) | assumption)
            obtain ⟨i048, hi048, _, hsz48, _⟩ := info_parts info55
            have hroom48 : t196.length ≤ co26 := (Kd.R_reads' HO_5.out).2.1
            have hC48 : Kd.C k55 _ Ao26 t196.length t196 := (Kd.R_reads' HO_5.out).2.2
            have hcut48 := cut_to (P := Try.prog) 26 55 .i64 Try.underlying26 hi048 Ao26 t196.length co26 (l0_4.length : Int) (of_decide_eq_true (by first | (with_reducible assumption) | assumption)) q48 hroom48
            have hr48 := Kd.C_take (m := ((l0_4.length : Int) : Int).toNat) hC48 (by omega)
            have hy48 : y209.length = ((l0_4.length : Int) : Int).toNat := (by rw [Ny209.out, List.length_take]; omega)
            rw [← Ny209.out] at hr48
            rw [← hy48] at hcut48
            have HR212 := Aside0.mk hr48
            have HC212 := Aside0.mk (show y209.length ≤ co26 from by omega)
            clear hr48 hC48 hroom48 hi048 hsz48
            have KY48 := Aside0.mk hy48
            clear hy48
            have KL48 := Aside0.mk (show ((l0_4.length : Int) : Int).toNat ≤ t196.length from by omega)
            replace q48 := eq_true q48
            refine start_ (n := 15) (S := fun w' => w'.cell? ⟨gb202, 0, none⟩ = some (.int .u64 t199) ∧ w'.cell? ⟨gb202, 1, none⟩ = some (.int .i64 t200) ∧ w'.cell? ⟨gb202, 2, none⟩ = some (.int .i64 t201) ∧ w'.cell? ⟨gb193, 0, none⟩ = some (.int .u64 a0_0) ∧ w'.cell? ⟨gb193, 1, none⟩ = some (.int .i64 a0_1) ∧ w'.cell? ⟨gb193, 2, none⟩ = some (.int .i64 a0_2) ∧ w'.cell? ⟨gb193, 3, none⟩ = some (.int .i64 a0_3) ∧ w'.cell? ⟨gb193, 4, none⟩ = some (.slice A0_4 l0_4.length c0_4) ∧ w'.cell? ⟨gb193, 5, none⟩ = some (.int .u64 a0_5) ∧ w'.cell? ⟨gb193, 6, none⟩ = some (.bool a0_6)) (ds := []) #[F,F,F,F,F,F,F,F,F,F,F,F,F,F,F] (by kernel_rfl) rfl rfl ⟨(blk_cell BK202.out 0).trans rfl, (blk_cell BK202.out 1).trans rfl, (blk_cell BK202.out 2).trans rfl, (blk_cell BK193.out 0).trans rfl, (blk_cell BK193.out 1).trans rfl, (blk_cell BK193.out 2).trans rfl, (blk_cell BK193.out 3).trans rfl, (blk_cell BK193.out 4).trans rfl, (blk_cell BK193.out 5).trans rfl, (blk_cell BK193.out 6).trans rfl⟩ (fun hHeld => ?_); refine with_tabW croftlaw11_OracleRises.tab10 croftlaw11_OracleRises.bits10 (fun HT_ HW_ => ?_)
            generalize w46.drew = w47 at HO_5 BK193 BK194 BK202 HR206 HB HR212 hHeld ⊢
            refine pure_ (i := 0) (N := some 39) (v := ?_) (a' := ?_) #[T,F,F,F,F,F,F,F,F,F,F,F,F,F,F] rfl rfl (any_of HT_.out (by kernel_rfl)) (fun _ _ _ h => h) (Or.inl ⟨by rfl, ?_⟩) ?_ ?_
            rotate_left
            ·intro w'
             go_simp
             with_reducible rfl
            rotate_left
            ·simp only [Act.put, Sa, Sb, Sc, i64_w, i32_w]
             rfl
            refine pure_ (i := 1) (N := some 40) (v := ?_) (a' := ?_) #[T,T,F,F,F,F,F,F,F,F,F,F,F,F,F] rfl rfl (any_of HT_.out (by kernel_rfl)) (fun _ _ _ h => h) (Or.inl ⟨by rfl, ?_⟩) ?_ ?_
            rotate_left
            ·intro w'
             go_simp
             with_reducible rfl
            rotate_left
            ·simp only [Act.put, Sa, Sb, Sc, i64_w, i32_w]
             rfl
            refine pure_ (i := 2) (N := some 41) (v := ?_) (a' := ?_) #[T,T,T,F,F,F,F,F,F,F,F,F,F,F,F] rfl rfl (any_of HT_.out (by kernel_rfl)) (fun _ _ _ h => h) (Or.inl ⟨by rfl, ?_⟩) ?_ ?_
            rotate_left
            ·intro w'
             go_simp
             with_reducible rfl
            rotate_left
            ·simp only [Act.put, Sa, Sb, Sc, i64_w, i32_w]
             rfl
            refine pure_ (i := 4) (N := some 43) (v := ?_) (a' := ?_) #[T,T,T,F,T,F,F,F,F,F,F,F,F,F,F] rfl rfl (any_of HT_.out (by kernel_rfl)) (fun _ _ _ h => h) (Or.inl ⟨by rfl, ?_⟩) ?_ ?_
            rotate_left
            ·intro w'
             go_simp
             with_reducible rfl
            rotate_left
            ·simp only [Act.put, Sa, Sb, Sc, i64_w, i32_w]
             rfl
            refine pure_ (i := 6) (N := some 45) (v := ?_) (a' := ?_) #[T,T,T,F,T,F,T,F,F,F,F,F,F,F,F] rfl rfl (any_of HT_.out (by kernel_rfl)) (fun _ _ _ h => h) (Or.inl ⟨by rfl, ?_⟩) ?_ ?_
            rotate_left
            ·intro w'
             go_simp
             with_reducible rfl
            rotate_left
            ·simp only [Act.put, Sa, Sb, Sc, i64_w, i32_w]
             rfl
            refine pure_ (i := 7) (N := some 46) (v := ?_) (a' := ?_) #[T,T,T,F,T,F,T,T,F,F,F,F,F,F,F] rfl rfl (any_of HT_.out (by kernel_rfl)) (fun _ _ _ h => h) (Or.inl ⟨by rfl, ?_⟩) ?_ ?_
            rotate_left
            ·intro w'
             go_simp
             with_reducible rfl
            rotate_left
            ·simp only [Act.put, Sa, Sb, Sc, i64_w, i32_w]
             rfl
            refine pure_ (i := 11) (N := some 50) (v := ?_) (a' := ?_) #[T,T,T,F,T,F,T,T,F,F,F,T,F,F,F] rfl rfl (any_of HT_.out (by kernel_rfl)) (fun _ _ _ h => h) (Or.inl ⟨by rfl, ?_⟩) ?_ ?_
            rotate_left
            ·intro w'
             go_simp
             with_reducible rfl
            rotate_left
            ·simp only [Act.put, Sa, Sb, Sc, i64_w, i32_w]
             rfl
            refine take_ (i := 3) (N := some 42) (v := ?_) (a' := ?_) #[T,T,T,T,T,F,T,T,F,F,F,T,F,F,F] rfl rfl (take_ofW HT_.out HW_.out (by kernel_rfl)) (fun _ _ _ h => h) (Or.inl ⟨by rfl, ?_⟩) hHeld ?_ ?_
            rotate_left
            ·rintro w' ⟨s0, s1, s2, s3, s4, s5, s6, s7, s8, s9⟩
             go_simp
             with_reducible rfl
            rotate_left
            ·simp only [Act.put, Sa, Sb, Sc, i64_w, i32_w]
             rfl
            refine take_ (i := 5) (N := some 44) (v := ?_) (a' := ?_) #[T,T,T,T,T,T,T,T,F,F,F,T,F,F,F] rfl rfl (take_ofW HT_.out HW_.out (by kernel_rfl)) (fun _ _ _ h => h) (Or.inl ⟨by rfl, ?_⟩) hHeld ?_ ?_
            rotate_left
            ·rintro w' ⟨s0, s1, s2, s3, s4, s5, s6, s7, s8, s9⟩
             go_simp
             with_reducible rfl
            rotate_left
            ·simp only [Act.put, Sa, Sb, Sc, i64_w, i32_w]
             rfl
            refine take_ (i := 8) (N := some 47) (v := ?_) (a' := ?_) #[T,T,T,T,T,T,T,T,T,F,F,T,F,F,F] rfl rfl (take_ofW HT_.out HW_.out (by kernel_rfl)) (fun _ _ _ h => h) (Or.inl ⟨by rfl, ?_⟩) hHeld ?_ ?_
            rotate_left
            ·rintro w' ⟨s0, s1, s2, s3, s4, s5, s6, s7, s8, s9⟩
             go_simp
             with_reducible rfl
            rotate_left
            ·simp only [Act.put, Sa, Sb, Sc, i64_w, i32_w]
             rfl
            refine pure_ (i := 9) (N := some 48) (v := ?_) (a' := ?_) #[T,T,T,T,T,T,T,T,T,T,F,T,F,F,F] rfl rfl (any_of HT_.out (by kernel_rfl)) (fun _ _ _ h => h) (Or.inl ⟨by rfl, ?_⟩) ?_ ?_
            rotate_left
            ·intro w'
             go_simp
             with_reducible rfl
            rotate_left
            ·simp only [Act.put, Sa, Sb, Sc, i64_w, i32_w]
             rfl
            refine pure_ (i := 10) (N := some 49) (v := ?_) (a' := ?_) #[T,T,T,T,T,T,T,T,T,T,T,T,F,F,F] rfl rfl (any_of HT_.out (by kernel_rfl)) (fun _ _ _ h => h) (Or.inl ⟨by rfl, ?_⟩) ?_ ?_
            rotate_left
            ·intro w'
             go_simp
             with_reducible rfl
            rotate_left
            ·simp only [Act.put, Sa, Sb, Sc, i64_w, i32_w]
             rfl
            refine one_ (i := 12) (N := some 51) #[T,T,T,T,T,T,T,T,T,T,T,T,T,F,F] rfl rfl (one_of HT_.out (by kernel_rfl)) (by decide) (fun K hK => ?_)
            refine goes_ Try.func23 (by kernel_rfl) rfl #[.agg #[.int .u64 t199, .int .i64 t200, .int .i64 t201], .int .i64 a0_3, .slice Ao26 y209.length co26, .int .u64 x7_1] (by rfl) rfl rfl (by (try simp only [List.map_toArray, List.map_cons, List.map_nil]); first | done | rfl | (rw [show y209.length = y203.length from by rw [Ny209.out, Ny203.out]]; rfl) | (simp only [List.length_drop, List.length_take]; rfl)) ?_
            with_reducible refine (oracle_NoFit.calls t199 t200 t201 a0_3 _ _ y209 x7_1 false _ ?side1 ?side2 A34.out).mono ?_
            (case side1 => repeat (first | exact (by repeat (first | (with_reducible exact HR212.out) | (with_reducible refine Kd.C_alloc ?_ _) | (with_reducible refine Kd.C_drewN ?_ _) | (with_reducible refine Kd.C_drew ?_) | exact HR212.out)) | (with_reducible refine Kd.C_alloc ?_ _) | (with_reducible refine Kd.C_drewN ?_ _) | (with_reducible refine Kd.C_drew ?_)))
            (case side2 => exact HC212.out)
            rintro e w49 ⟨rfl, hb⟩
            refine ⟨_, rfl, ?_⟩
            have n0_ := Aside0.mk (Kd.R_below (by (with_reducible repeat (first | apply Kd.R_alloc | apply Kd.R_drewN | apply Kd.R_drew)); exact HO_5.out) hb)
            have n1_ := Aside0.mk (blk_below (g := gb193) (o := .cells #[.int .u64 a0_0, .int .i64 a0_1, .int .i64 a0_2, .int .i64 a0_3, .slice A0_4 l0_4.length c0_4, .int .u64 a0_5, .bool a0_6] 44 (0, 0)) (by (with_reducible repeat (first | refine blk_drewN ?_ _ | refine blk_drew ?_ | refine blk_alloc ?_ _)); exact BK193.out) hb)
            have n2_ := Aside0.mk (blk_below (g := gb194) (o := .cells #[.int .u64 a1_0, .int .u64 a1_1] 49 (0, 0)) (by (with_reducible repeat (first | refine blk_drewN ?_ _ | refine blk_drew ?_ | refine blk_alloc ?_ _)); exact BK194.out) hb)
            have n3_ := Aside0.mk (blk_below (g := gb202) (o := .cells #[.int .u64 t199, .int .i64 t200, .int .i64 t201] 29 (0, 0)) (by (with_reducible repeat (first | refine blk_drewN ?_ _ | refine blk_drew ?_ | refine blk_alloc ?_ _)); exact BK202.out) hb)
            have n4_ := Aside0.mk (Kd.C_below (by repeat (first | (with_reducible exact HR206.out) | (with_reducible refine Kd.C_alloc ?_ _) | (with_reducible refine Kd.C_drewN ?_ _) | (with_reducible refine Kd.C_drew ?_) | exact HR206.out)) hb)
            have n5_ := Aside0.mk (Kd.C_below (by repeat (first | (with_reducible exact HR212.out) | (with_reducible refine Kd.C_alloc ?_ _) | (with_reducible refine Kd.C_drewN ?_ _) | (with_reducible refine Kd.C_drew ?_) | exact HR212.out)) hb)
            have n6_ := Aside0.mk (below_step (by repeat (first | (with_reducible first | exact HB.out | apply below_alloc | apply pw_below_drewN | apply below_drew1 | refine below_set ?_ GE193.out | refine below_set ?_ GE194.out | refine below_set ?_ GE202.out) | exact HB.out)) hb)
            clear HO_5
            clear BK193
            clear BK194
            clear BK202
            clear HR206
            clear HR212
            clear HB
            have HO_5 := n0_
            have BK193 := n1_
            have BK194 := n2_
            have BK202 := n3_
            have HR206 := n4_
            have HR212 := n5_
            have HB := n6_
            clear n0_ n1_ n2_ n3_ n4_ n5_ n6_
            (try clear hb)
            (try clear hb2)
            (try clear hk)
            (try clear hi)
            refine hK.out _ _ ⟨(blk_cell BK202.out 0).trans rfl, (blk_cell BK202.out 1).trans rfl, (blk_cell BK202.out 2).trans rfl, (blk_cell BK193.out 0).trans rfl, (blk_cell BK193.out 1).trans rfl, (blk_cell BK193.out 2).trans rfl, (blk_cell BK193.out 3).trans rfl, (blk_cell BK193.out 4).trans rfl, (blk_cell BK193.out 5).trans rfl, (blk_cell BK193.out 6).trans rfl⟩ (fun hHeld => ?_)
            clear hK K
            refine norm_ (a' := ?_) ?_ ?_
            rotate_left
            ·show Act.put _ (some 51) _ = _
             simp only [Act.put, Sa, Sb, Sc, i64_w, i32_w]
             rfl
            refine pure_ (i := 13) (N := some 52) (v := ?_) (a' := ?_) #[T,T,T,T,T,T,T,T,T,T,T,T,T,T,F] rfl rfl (any_of HT_.out (by kernel_rfl)) (fun _ _ _ h => h) (Or.inl ⟨by rfl, ?_⟩) ?_ ?_
            rotate_left
            ·intro w'
             go_simp
             with_reducible rfl
            rotate_left
            ·simp only [Act.put, Sa, Sb, Sc, i64_w, i32_w]
             rfl
            refine pure_ (i := 14) (N := some 53) (v := ?_) (a' := ?_) #[T,T,T,T,T,T,T,T,T,T,T,T,T,T,T] rfl rfl (any_of HT_.out (by kernel_rfl)) (fun _ _ _ h => h) (Or.inl ⟨by rfl, ?_⟩) ?_ ?_
            rotate_left
            ·intro w'
             go_simp
             with_reducible rfl
            rotate_left
            ·simp only [Act.put, Sa, Sb, Sc, i64_w, i32_w]
             rfl
            refine done_ (done_of HT_.out (by kernel_rfl)) ?_
            try go_wp2
            go_ret
            exact ⟨by first | rfl | (simp [errW_none, errW_some] <;> rfl) | (simp [*, errW_none, errW_some] <;> rfl), by repeat (first | (with_reducible first | exact HB.out | apply below_alloc | apply pw_below_drewN | apply below_drew1 | refine below_set ?_ GE193.out | refine below_set ?_ GE194.out | refine below_set ?_ GE202.out) | exact HB.out)⟩
          ·rw [if_neg c33] at H
           exact absurd H (by simp)
         ·rw [if_neg c32] at H
          exact absurd H (by simp)
        ·rw [if_neg c31] at H
         have c31b0 : decide (4096 ≤ x7_1) = false := decide_eq_false c31
         clear c31
         have H' := Aside0.mk H
         clear H
         have hnb50 := NB193_194.out
         have hnc50 := NB194_193.out
         have hnb51 := NB193_202.out
         have hnc51 := NB202_193.out
         have hcz52_0 : wr.cell? ⟨gb193, 0, none⟩ = some (.int .u64 a0_0) := (blk_cell BK193.out 0).trans rfl
         have hcz52_1 : wr.cell? ⟨gb193, 1, none⟩ = some (.int .i64 a0_1) := (blk_cell BK193.out 1).trans rfl
         have hcz52_2 : wr.cell? ⟨gb193, 2, none⟩ = some (.int .i64 a0_2) := (blk_cell BK193.out 2).trans rfl
         have hcz52_3 : wr.cell? ⟨gb193, 3, none⟩ = some (.int .i64 a0_3) := (blk_cell BK193.out 3).trans rfl
         have hcz52_4 : wr.cell? ⟨gb193, 4, none⟩ = some (.slice A0_4 l0_4.length c0_4) := (blk_cell BK193.out 4).trans rfl
         have hcz52_5 : wr.cell? ⟨gb193, 5, none⟩ = some (.int .u64 a0_5) := (blk_cell BK193.out 5).trans rfl
         have hcz52_6 : wr.cell? ⟨gb193, 6, none⟩ = some (.bool a0_6) := (blk_cell BK193.out 6).trans rfl
         have hfz52_0 := blk_frozen BK193.out 0
         have hfz52_1 := blk_frozen BK193.out 1
         have hfz52_2 := blk_frozen BK193.out 2
         have hfz52_3 := blk_frozen BK193.out 3
         have hfz52_4 := blk_frozen BK193.out 4
         have hfz52_5 := blk_frozen BK193.out 5
         have hfz52_6 := blk_frozen BK193.out 6
         try go_wp2_with (first | ((with_reducible refine gate_callee (f := 24) rfl ?_); refine goesL_ (some 35) rfl rfl Try.func24 (by kernel_rfl) rfl #[.agg #[.int .u64 a0_0, .int .i64 a0_1, .int .i64 a0_2]] rfl (by (try simp only [List.map_toArray, List.map_cons, List.map_nil]); first | done | rfl | (simp only [List.length_drop, List.length_take]; rfl)) ?_; (with_reducible refine (croftref11_R.calls a0_0 a0_1 a0_2 t208 _ A29.out).mono ?_); rintro e w53 ⟨rfl, hb⟩; refine ⟨_, rfl, ?_⟩; have n0_ := Aside0.mk (Kd.R_below (by (with_reducible repeat (first | apply Kd.R_alloc | apply Kd.R_drewN | apply Kd.R_drew)); exact HO_5.out) hb); have n1_ := Aside0.mk (blk_below (g := gb193) (o := .cells #[.int .u64 a0_0, .int .i64 a0_1, .int .i64 a0_2, .int .i64 a0_3, .slice A0_4 l0_4.length c0_4, .int .u64 a0_5, .bool a0_6] 44 (0, 0)) (by (with_reducible repeat (first | refine blk_drewN ?_ _ | refine blk_drew ?_ | refine blk_alloc ?_ _)); exact BK193.out) hb); have n2_ := Aside0.mk (blk_below (g := gb194) (o := .cells #[.int .u64 a1_0, .int .u64 a1_1] 49 (0, 0)) (by (with_reducible repeat (first | refine blk_drewN ?_ _ | refine blk_drew ?_ | refine blk_alloc ?_ _)); exact BK194.out) hb); have n3_ := Aside0.mk (blk_below (g := gb202) (o := .cells #[.int .u64 t199, .int .i64 t200, .int .i64 t201] 29 (0, 0)) (by (with_reducible repeat (first | refine blk_drewN ?_ _ | refine blk_drew ?_ | refine blk_alloc ?_ _)); exact BK202.out) hb); have n4_ := Aside0.mk (Kd.C_below (by repeat (first | (with_reducible exact HR206.out) | (with_reducible refine Kd.C_alloc ?_ _) | (with_reducible refine Kd.C_drewN ?_ _) | (with_reducible refine Kd.C_drew ?_) | exact HR206.out)) hb); have n5_ := Aside0.mk (below_step (by repeat (first | (with_reducible first | exact HB.out | apply below_alloc | apply pw_below_drewN | apply below_drew1 | refine below_set ?_ GE193.out | refine below_set ?_ GE194.out | refine below_set ?_ GE202.out) | exact HB.out)) hb); clear HO_5; clear BK193; clear BK194; clear BK202; clear HR206; clear HB; have HO_5 := n0_; have BK193 := n1_; have BK194 := n2_; have BK202 := n3_; have HR206 := n4_; have HB := n5_; clear n0_ n1_ n2_ n3_ n4_ n5_; (try clear hb); (try clear hb2); (try clear hk); (try clear hi)))
         have n0_ := Aside0.mk (Kd.R_drew HO_5.out)
         have n1_ := Aside0.mk (blk_drew BK193.out)
         have n2_ := Aside0.mk (blk_drew BK194.out)
         have n3_ := Aside0.mk (blk_drew BK202.out)
         have n4_ := Aside0.mk (Kd.C_drew HR206.out)
         have n5_ := Aside0.mk (below_drew1 HB.out)
         clear HO_5
         clear BK193
         clear BK194
         clear BK202
         clear HR206
         clear HB
         have HO_5 := n0_
         have BK193 := n1_
         have BK194 := n2_
         have BK202 := n3_
         have HR206 := n4_
         have HB := n5_
         clear n0_ n1_ n2_ n3_ n4_ n5_
         refine start_ (n := 15) (S := fun w' => True) (ds := []) #[F,F,F,F,F,F,F,F,F,F,F,F,F,F,F] (by kernel_rfl) rfl rfl trivial (fun hHeld => ?_); refine with_tabW croftlaw11_OracleRises.tab10 croftlaw11_OracleRises.bits10 (fun HT_ HW_ => ?_)
         generalize w53.drew = w54 at HO_5 BK193 BK194 BK202 HR206 HB hHeld ⊢
         refine pure_ (i := 0) (N := some 39) (v := ?_) (a' := ?_) #[T,F,F,F,F,F,F,F,F,F,F,F,F,F,F] rfl rfl (any_of HT_.out (by kernel_rfl)) (fun _ _ _ h => h) (Or.inl ⟨by rfl, ?_⟩) ?_ ?_
         rotate_left
         ·intro w'
          go_simp
          with_reducible rfl
         rotate_left
         ·simp only [Act.put, Sa, Sb, Sc, i64_w, i32_w]
          rfl
         refine pure_ (i := 1) (N := some 40) (v := ?_) (a' := ?_) #[T,T,F,F,F,F,F,F,F,F,F,F,F,F,F] rfl rfl (any_of HT_.out (by kernel_rfl)) (fun _ _ _ h => h) (Or.inl ⟨by rfl, ?_⟩) ?_ ?_
         rotate_left
         ·intro w'
          go_simp
          with_reducible rfl
         rotate_left
         ·simp only [Act.put, Sa, Sb, Sc, i64_w, i32_w]
          rfl
         refine pure_ (i := 2) (N := some 41) (v := ?_) (a' := ?_) #[T,T,T,F,F,F,F,F,F,F,F,F,F,F,F] rfl rfl (any_of HT_.out (by kernel_rfl)) (fun _ _ _ h => h) (Or.inl ⟨by rfl, ?_⟩) ?_ ?_
         rotate_left
         ·intro w'
          go_simp
          with_reducible rfl
         rotate_left
         ·simp only [Act.put, Sa, Sb, Sc, i64_w, i32_w]
          rfl
         refine pure_ (i := 3) (N := some 42) (v := undef) (a' := ?_) #[T,T,T,T,F,F,F,F,F,F,F,F,F,F,F] rfl rfl (any_of HT_.out (by kernel_rfl)) (fun _ _ _ h => h) (Or.inr ⟨by rfl, rfl⟩) ?_ ?_
         rotate_left
         ·simp only [Act.put, Sa, Sb, Sc, i64_w, i32_w]
          rfl
         refine pure_ (i := 4) (N := some 43) (v := undef) (a' := ?_) #[T,T,T,T,T,F,F,F,F,F,F,F,F,F,F] rfl rfl (any_of HT_.out (by kernel_rfl)) (fun _ _ _ h => h) (Or.inr ⟨by rfl, rfl⟩) ?_ ?_
         rotate_left
         ·simp only [Act.put, Sa, Sb, Sc, i64_w, i32_w]
          rfl
         refine pure_ (i := 5) (N := some 44) (v := undef) (a' := ?_) #[T,T,T,T,T,T,F,F,F,F,F,F,F,F,F] rfl rfl (any_of HT_.out (by kernel_rfl)) (fun _ _ _ h => h) (Or.inr ⟨by rfl, rfl⟩) ?_ ?_
         rotate_left
         ·simp only [Act.put, Sa, Sb, Sc, i64_w, i32_w]
          rfl
         refine pure_ (i := 6) (N := some 45) (v := undef) (a' := ?_) #[T,T,T,T,T,T,T,F,F,F,F,F,F,F,F] rfl rfl (any_of HT_.out (by kernel_rfl)) (fun _ _ _ h => h) (Or.inr ⟨by rfl, rfl⟩) ?_ ?_
         rotate_left
         ·simp only [Act.put, Sa, Sb, Sc, i64_w, i32_w]
          rfl
         refine pure_ (i := 7) (N := some 46) (v := undef) (a' := ?_) #[T,T,T,T,T,T,T,T,F,F,F,F,F,F,F] rfl rfl (any_of HT_.out (by kernel_rfl)) (fun _ _ _ h => h) (Or.inr ⟨by rfl, rfl⟩) ?_ ?_
         rotate_left
         ·simp only [Act.put, Sa, Sb, Sc, i64_w, i32_w]
          rfl
         refine pure_ (i := 8) (N := some 47) (v := undef) (a' := ?_) #[T,T,T,T,T,T,T,T,T,F,F,F,F,F,F] rfl rfl (any_of HT_.out (by kernel_rfl)) (fun _ _ _ h => h) (Or.inr ⟨by rfl, rfl⟩) ?_ ?_
         rotate_left
         ·simp only [Act.put, Sa, Sb, Sc, i64_w, i32_w]
          rfl
         refine pure_ (i := 9) (N := some 48) (v := undef) (a' := ?_) #[T,T,T,T,T,T,T,T,T,T,F,F,F,F,F] rfl rfl (any_of HT_.out (by kernel_rfl)) (fun _ _ _ h => h) (Or.inr ⟨by rfl, rfl⟩) ?_ ?_
         rotate_left
         ·simp only [Act.put, Sa, Sb, Sc, i64_w, i32_w]
          rfl
         refine pure_ (i := 10) (N := some 49) (v := undef) (a' := ?_) #[T,T,T,T,T,T,T,T,T,T,T,F,F,F,F] rfl rfl (any_of HT_.out (by kernel_rfl)) (fun _ _ _ h => h) (Or.inr ⟨by rfl, rfl⟩) ?_ ?_
         rotate_left
         ·simp only [Act.put, Sa, Sb, Sc, i64_w, i32_w]
          rfl
         refine pure_ (i := 11) (N := some 50) (v := undef) (a' := ?_) #[T,T,T,T,T,T,T,T,T,T,T,T,F,F,F] rfl rfl (any_of HT_.out (by kernel_rfl)) (fun _ _ _ h => h) (Or.inr ⟨by rfl, rfl⟩) ?_ ?_
         rotate_left
         ·simp only [Act.put, Sa, Sb, Sc, i64_w, i32_w]
          rfl
         refine pure_ (i := 12) (N := some 51) (v := undef) (a' := ?_) #[T,T,T,T,T,T,T,T,T,T,T,T,T,F,F] rfl rfl (any_of HT_.out (by kernel_rfl)) (fun _ _ _ h => h) (Or.inr ⟨by rfl, rfl⟩) ?_ ?_
         rotate_left
         ·simp only [Act.put, Sa, Sb, Sc, i64_w, i32_w]
          rfl
         refine pure_ (i := 13) (N := some 52) (v := undef) (a' := ?_) #[T,T,T,T,T,T,T,T,T,T,T,T,T,T,F] rfl rfl (any_of HT_.out (by kernel_rfl)) (fun _ _ _ h => h) (Or.inr ⟨by rfl, rfl⟩) ?_ ?_
         rotate_left
         ·simp only [Act.put, Sa, Sb, Sc, i64_w, i32_w]
          rfl
         refine pure_ (i := 14) (N := some 53) (v := ?_) (a' := ?_) #[T,T,T,T,T,T,T,T,T,T,T,T,T,T,T] rfl rfl (any_of HT_.out (by kernel_rfl)) (fun _ _ _ h => h) (Or.inl ⟨by rfl, ?_⟩) ?_ ?_
         rotate_left
         ·intro w'
          go_simp
          with_reducible rfl
         rotate_left
         ·simp only [Act.put, Sa, Sb, Sc, i64_w, i32_w]
          rfl
         refine done_ (done_of HT_.out (by kernel_rfl)) ?_
         try go_wp2
         go_roundg k1
         case measure => have := HK1.out; omega
         case rel => exact ⟨(IntKind.u64.wrap (x7_1 * 2)), (by first | rfl | (simp; done) | (simp [*]; done)), H', ⟨by have := HK1.out; omega⟩, ⟨by (with_reducible repeat (first | apply Kd.R_alloc | apply Kd.R_drewN | apply Kd.R_drew)); exact HO_5.out⟩, ⟨by (with_reducible repeat (first | refine blk_drewN ?_ _ | refine blk_drew ?_ | refine blk_alloc ?_ _)); exact BK193.out⟩, ⟨by (with_reducible repeat (first | refine blk_drewN ?_ _ | refine blk_drew ?_ | refine blk_alloc ?_ _)); exact BK194.out⟩, ⟨by (with_reducible repeat (first | refine blk_drewN ?_ _ | refine blk_drew ?_ | refine blk_alloc ?_ _)); exact BK202.out⟩, ⟨by repeat (first | (with_reducible exact HR206.out) | (with_reducible refine Kd.C_alloc ?_ _) | (with_reducible refine Kd.C_drewN ?_ _) | (with_reducible refine Kd.C_drew ?_) | exact HR206.out)⟩, ⟨by repeat (first | (with_reducible first | exact HB.out | apply below_alloc | apply pw_below_drewN | apply below_drew1 | refine below_set ?_ GE193.out | refine below_set ?_ GE194.out | refine below_set ?_ GE202.out) | exact HB.out)⟩⟩
       ·rw [if_neg c30] at H
        have c30b0 : decide (x7_1 ≤ t208) = false := decide_eq_false c30
        clear c30
        replace H := Option.bind_eq_some_iff.mp H
        obtain ⟨t214, A550, H⟩ := H
        replace H : ((some (([(⟨a1_0, a1_1⟩ : S49)] : List (S49)) : List (S49))).bind fun y217 => (if t214.length + y217.length < 8796093022208 then ((some (t214 ++ y217 : List (S49))).bind fun y220 => ((croftlaw11_blocks.f k1 y220).bind fun t223 => ((croftref11_Sound.f k1 a0_0 a0_1 a0_2 a0_3 y220).bind fun t226 => (if t226 = (-1) then (if a0_5 < 4096 then (some true) else (if 0 ≤ (y220.length : Int) then (if (y220.length : Int) ≤ (t223.length : Int) then ((oracle_NoFit.f t199 t200 t201 a0_3 (t223.take ((y220.length : Int) : Int).toNat) a0_5).bind fun t231 => (some t231)) else (none)) else (none))) else (some true))))) else (none))) = some r := H
        have A55 := Aside0.mk A550
        clear A550
        obtain ⟨y217, hy217⟩ : ∃ y_ : List (S49), y_ = (([(⟨a1_0, a1_1⟩ : S49)] : List (S49))) := ⟨_, rfl⟩
        replace H : (if t214.length + y217.length < 8796093022208 then ((some (t214 ++ y217 : List (S49))).bind fun y220 => ((croftlaw11_blocks.f k1 y220).bind fun t223 => ((croftref11_Sound.f k1 a0_0 a0_1 a0_2 a0_3 y220).bind fun t226 => (if t226 = (-1) then (if a0_5 < 4096 then (some true) else (if 0 ≤ (y220.length : Int) then (if (y220.length : Int) ≤ (t223.length : Int) then ((oracle_NoFit.f t199 t200 t201 a0_3 (t223.take ((y220.length : Int) : Int).toNat) a0_5).bind fun t231 => (some t231)) else (none)) else (none))) else (some true))))) else (none)) = some r := by first | (rw [hy217]; with_reducible exact H) | (have H2_ := (Option.bind_some _ _).symm.trans H; rw [hy217]; with_reducible exact H2_) | (have H2_ := (Option.bind_some _ _).symm.trans H; with_reducible exact H2_) | with_reducible exact H | (rw [hy217]; exact H) | exact H
        have Ny217 := Aside0.mk hy217
        clear hy217
        by_cases c56 : t214.length + y217.length < 8796093022208
        ·rw [if_pos c56] at H
         have LMc56 := Aside0.mk c56
         clear c56
         obtain ⟨y220, hy220⟩ : ∃ y_ : List (S49), y_ = (t214 ++ y217) := ⟨_, rfl⟩
         replace H : ((croftlaw11_blocks.f k1 y220).bind fun t223 => ((croftref11_Sound.f k1 a0_0 a0_1 a0_2 a0_3 y220).bind fun t226 => (if t226 = (-1) then (if a0_5 < 4096 then (some true) else (if 0 ≤ (y220.length : Int) then (if (y220.length : Int) ≤ (t223.length : Int) then ((oracle_NoFit.f t199 t200 t201 a0_3 (t223.take ((y220.length : Int) : Int).toNat) a0_5).bind fun t231 => (some t231)) else (none)) else (none))) else (some true)))) = some r := by first | (rw [hy220]; with_reducible exact H) | (have H2_ := (Option.bind_some _ _).symm.trans H; rw [hy220]; with_reducible exact H2_) | (have H2_ := (Option.bind_some _ _).symm.trans H; with_reducible exact H2_) | with_reducible exact H | (rw [hy220]; exact H) | exact H
         have Ny220 := Aside0.mk hy220
         clear hy220
         replace H := Option.bind_eq_some_iff.mp H
         obtain ⟨t223, A570, H⟩ := H
         replace H : ((croftref11_Sound.f k1 a0_0 a0_1 a0_2 a0_3 y220).bind fun t226 => (if t226 = (-1) then (if a0_5 < 4096 then (some true) else (if 0 ≤ (y220.length : Int) then (if (y220.length : Int) ≤ (t223.length : Int) then ((oracle_NoFit.f t199 t200 t201 a0_3 (t223.take ((y220.length : Int) : Int).toNat) a0_5).bind fun t231 => (some t231)) else (none)) else (none))) else (some true))) = some r := H
         have A57 := Aside0.mk A570
         clear A570
         replace H := Option.bind_eq_some_iff.mp H
         obtain ⟨t226, A580, H⟩ := H
         replace H : (if t226 = (-1) then (if a0_5 < 4096 then (some true) else (if 0 ≤ (y220.length : Int) then (if (y220.length : Int) ≤ (t223.length : Int) then ((oracle_NoFit.f t199 t200 t201 a0_3 (t223.take ((y220.length : Int) : Int).toNat) a0_5).bind fun t231 => (some t231)) else (none)) else (none))) else (some true)) = some r := H
         have A58 := Aside0.mk A580
         clear A580
         by_cases c59 : t226 = (-1)
         ·rw [if_pos c59] at H
          have c59b0 : (t226 == (-1)) = true := beq_iff_eq.mpr c59
          have c59b1 : (t226 != (-1)) = false := bne_eq_false_iff_eq.mpr c59
          clear c59
          by_cases c60 : a0_5 < 4096
          ·rw [if_pos c60] at H
           have c60b0 : decide (a0_5 < 4096) = true := decide_eq_true c60
           clear c60
           obtain rfl := Option.some.inj H
           have hnb61 := NB193_194.out
           have hnc61 := NB194_193.out
           have hnb62 := NB193_202.out
           have hnc62 := NB202_193.out
           have hcz63_0 : wr.cell? ⟨gb193, 0, none⟩ = some (.int .u64 a0_0) := (blk_cell BK193.out 0).trans rfl
           have hcz63_1 : wr.cell? ⟨gb193, 1, none⟩ = some (.int .i64 a0_1) := (blk_cell BK193.out 1).trans rfl
           have hcz63_2 : wr.cell? ⟨gb193, 2, none⟩ = some (.int .i64 a0_2) := (blk_cell BK193.out 2).trans rfl
           have hcz63_3 : wr.cell? ⟨gb193, 3, none⟩ = some (.int .i64 a0_3) := (blk_cell BK193.out 3).trans rfl
           have hcz63_4 : wr.cell? ⟨gb193, 4, none⟩ = some (.slice A0_4 l0_4.length c0_4) := (blk_cell BK193.out 4).trans rfl
           have hcz63_5 : wr.cell? ⟨gb193, 5, none⟩ = some (.int .u64 a0_5) := (blk_cell BK193.out 5).trans rfl
           have hcz63_6 : wr.cell? ⟨gb193, 6, none⟩ = some (.bool a0_6) := (blk_cell BK193.out 6).trans rfl
           have hfz63_0 := blk_frozen BK193.out 0
           have hfz63_1 := blk_frozen BK193.out 1
           have hfz63_2 := blk_frozen BK193.out 2
           have hfz63_3 := blk_frozen BK193.out 3
           have hfz63_4 := blk_frozen BK193.out 4
           have hfz63_5 := blk_frozen BK193.out 5
           have hfz63_6 := blk_frozen BK193.out 6
           try go_wp2_with (first | ((with_reducible refine gate_callee (f := 24) rfl ?_); refine goesL_ (some 35) rfl rfl Try.func24 (by kernel_rfl) rfl #[.agg #[.int .u64 a0_0, .int .i64 a0_1, .int .i64 a0_2]] rfl (by (try simp only [List.map_toArray, List.map_cons, List.map_nil]); first | done | rfl | (simp only [List.length_drop, List.length_take]; rfl)) ?_; (with_reducible refine (croftref11_R.calls a0_0 a0_1 a0_2 t208 _ A29.out).mono ?_); rintro e w64 ⟨rfl, hb⟩; refine ⟨_, rfl, ?_⟩; have n0_ := Aside0.mk (Kd.R_below (by (with_reducible repeat (first | apply Kd.R_alloc | apply Kd.R_drewN | apply Kd.R_drew)); exact HO_5.out) hb); have n1_ := Aside0.mk (blk_below (g := gb193) (o := .cells #[.int .u64 a0_0, .int .i64 a0_1, .int .i64 a0_2, .int .i64 a0_3, .slice A0_4 l0_4.length c0_4, .int .u64 a0_5, .bool a0_6] 44 (0, 0)) (by (with_reducible repeat (first | refine blk_drewN ?_ _ | refine blk_drew ?_ | refine blk_alloc ?_ _)); exact BK193.out) hb); have n2_ := Aside0.mk (blk_below (g := gb194) (o := .cells #[.int .u64 a1_0, .int .u64 a1_1] 49 (0, 0)) (by (with_reducible repeat (first | refine blk_drewN ?_ _ | refine blk_drew ?_ | refine blk_alloc ?_ _)); exact BK194.out) hb); have n3_ := Aside0.mk (blk_below (g := gb202) (o := .cells #[.int .u64 t199, .int .i64 t200, .int .i64 t201] 29 (0, 0)) (by (with_reducible repeat (first | refine blk_drewN ?_ _ | refine blk_drew ?_ | refine blk_alloc ?_ _)); exact BK202.out) hb); have n4_ := Aside0.mk (Kd.C_below (by repeat (first | (with_reducible exact HR206.out) | (with_reducible refine Kd.C_alloc ?_ _) | (with_reducible refine Kd.C_drewN ?_ _) | (with_reducible refine Kd.C_drew ?_) | exact HR206.out)) hb); have n5_ := Aside0.mk (below_step (by repeat (first | (with_reducible first | exact HB.out | apply below_alloc | apply pw_below_drewN | apply below_drew1 | refine below_set ?_ GE193.out | refine below_set ?_ GE194.out | refine below_set ?_ GE202.out) | exact HB.out)) hb); clear HO_5; clear BK193; clear BK194; clear BK202; clear HR206; clear HB; have HO_5 := n0_; have BK193 := n1_; have BK194 := n2_; have BK202 := n3_; have HR206 := n4_; have HB := n5_; clear n0_ n1_ n2_ n3_ n4_ n5_; (try clear hb); (try clear hb2); (try clear hk); (try clear hi)))
           have n0_ := Aside0.mk (Kd.R_drew HO_5.out)
           have n1_ := Aside0.mk (blk_drew BK193.out)
           have n2_ := Aside0.mk (blk_drew BK194.out)
           have n3_ := Aside0.mk (blk_drew BK202.out)
           have n4_ := Aside0.mk (Kd.C_drew HR206.out)
           have n5_ := Aside0.mk (below_drew1 HB.out)
           clear HO_5
           clear BK193
           clear BK194
           clear BK202
           clear HR206
           clear HB
           have HO_5 := n0_
           have BK193 := n1_
           have BK194 := n2_
           have BK202 := n3_
           have HR206 := n4_
           have HB := n5_
           clear n0_ n1_ n2_ n3_ n4_ n5_
           refine start_ (n := 7) (S := fun w' => w'.cell? ⟨gb193, 0, none⟩ = some (.int .u64 a0_0) ∧ w'.cell? ⟨gb193, 1, none⟩ = some (.int .i64 a0_1) ∧ w'.cell? ⟨gb193, 2, none⟩ = some (.int .i64 a0_2) ∧ w'.cell? ⟨gb193, 3, none⟩ = some (.int .i64 a0_3) ∧ w'.cell? ⟨gb193, 4, none⟩ = some (.slice A0_4 l0_4.length c0_4) ∧ w'.cell? ⟨gb193, 5, none⟩ = some (.int .u64 a0_5) ∧ w'.cell? ⟨gb193, 6, none⟩ = some (.bool a0_6) ∧ w'.cell? ⟨gb194, 0, none⟩ = some (.int .u64 a1_0) ∧ w'.cell? ⟨gb194, 1, none⟩ = some (.int .u64 a1_1)) (ds := []) #[F,F,F,F,F,F,F] (by kernel_rfl) rfl rfl ⟨(blk_cell BK193.out 0).trans rfl, (blk_cell BK193.out 1).trans rfl, (blk_cell BK193.out 2).trans rfl, (blk_cell BK193.out 3).trans rfl, (blk_cell BK193.out 4).trans rfl, (blk_cell BK193.out 5).trans rfl, (blk_cell BK193.out 6).trans rfl, (blk_cell BK194.out 0).trans rfl, (blk_cell BK194.out 1).trans rfl⟩ (fun hHeld => ?_)
           generalize w64.drew = w65 at HO_5 BK193 BK194 BK202 HR206 HB hHeld ⊢
           refine pure_ (i := 0) (N := some 54) (v := ?_) (a' := ?_) #[T,F,F,F,F,F,F] rfl rfl (by kernel_rfl) (fun _ _ _ h => h) (Or.inl ⟨by rfl, ?_⟩) ?_ ?_
           rotate_left
           ·intro w'
            go_simp
            with_reducible rfl
           rotate_left
           ·simp only [Act.put, Sa, Sb, Sc, i64_w, i32_w]
            rfl
           refine take_ (i := 1) (N := some 55) (v := ?_) (a' := ?_) #[T,T,F,F,F,F,F] rfl rfl (by kernel_rfl) (fun _ _ _ h => h) (Or.inl ⟨by rfl, ?_⟩) hHeld ?_ ?_
           rotate_left
           ·rintro w' ⟨s0, s1, s2, s3, s4, s5, s6, s7, s8⟩
            go_simp
            with_reducible rfl
           rotate_left
           ·simp only [Act.put, Sa, Sb, Sc, i64_w, i32_w]
            rfl
           refine take_ (i := 3) (N := some 57) (v := ?_) (a' := ?_) #[T,T,F,T,F,F,F] rfl rfl (by kernel_rfl) (fun _ _ _ h => h) (Or.inl ⟨by rfl, ?_⟩) hHeld ?_ ?_
           rotate_left
           ·rintro w' ⟨s0, s1, s2, s3, s4, s5, s6, s7, s8⟩
            go_simp
            with_reducible rfl
           rotate_left
           ·simp only [Act.put, Sa, Sb, Sc, i64_w, i32_w]
            rfl
           refine join_ (σ := Value × Value) 2 #[T,T,T,T,T,F,F] (fun s_ => [(56, s_.1), (58, s_.2)]) (fun s_ w' => (w'.cell? ⟨gb193, 0, none⟩ = some (.int .u64 a0_0) ∧ w'.cell? ⟨gb193, 1, none⟩ = some (.int .i64 a0_1) ∧ w'.cell? ⟨gb193, 2, none⟩ = some (.int .i64 a0_2) ∧ w'.cell? ⟨gb193, 3, none⟩ = some (.int .i64 a0_3) ∧ w'.cell? ⟨gb193, 4, none⟩ = some (.slice A0_4 l0_4.length c0_4) ∧ w'.cell? ⟨gb193, 5, none⟩ = some (.int .u64 a0_5) ∧ w'.cell? ⟨gb193, 6, none⟩ = some (.bool a0_6) ∧ w'.cell? ⟨gb194, 0, none⟩ = some (.int .u64 a1_0) ∧ w'.cell? ⟨gb194, 1, none⟩ = some (.int .u64 a1_1)) ∧ (Kd.R k49 49 w' w.heap.size (fun k_ => some k_ ≠ (s_.2 : Value).ownBlock ∧ k_ ≠ gb194) s_.1 t214) ∧ (Kd.R k49 49 w' w.heap.size (fun k_ => some k_ ≠ (s_.1 : Value).ownBlock ∧ k_ ≠ gb194) s_.2 y217) ∧ (Kd.R k55 55 w' w.heap.size (fun _ => True) (.slice Ao26 t196.length co26) t196) ∧ (w'.heap[gb193]? = some (.cells #[.int .u64 a0_0, .int .i64 a0_1, .int .i64 a0_2, .int .i64 a0_3, .slice A0_4 l0_4.length c0_4, .int .u64 a0_5, .bool a0_6] 44 (0, 0))) ∧ (w'.heap[gb194]? = some (.cells #[.int .u64 a1_0, .int .u64 a1_1] 49 (0, 0))) ∧ (w'.heap[gb202]? = some (.cells #[.int .u64 t199, .int .i64 t200, .int .i64 t201] 29 (0, 0))) ∧ (Below w.heap.size w w')) ?_ ?_
           rotate_left
           ·intro hCont
            refine two_ (i := 2) (j := 4) (Ni := some 56) (Nj := some 58) #[T,T,T,T,F,F,F] #[T,T,F,T,T,F,F] rfl rfl rfl rfl (by kernel_rfl) (by decide) (by decide) (fun K hK => ?_) (fun K hK => ?_)
            ·skip
             refine goes_ Try.func22 (by kernel_rfl) rfl #[.slice A0_4 l0_4.length c0_4] (by rfl) rfl rfl (by (try simp only [List.map_toArray, List.map_cons, List.map_nil]); first | done | rfl | (simp only [List.length_drop, List.length_take]; rfl)) ?_
             with_reducible refine (croftlaw11_turned.calls k1 _ _ l0_4 t214 _ ?side1 ?side2 A55.out).mono ?_
             (case side1 => repeat (first | exact (Kd.C_below HR0_4.out HB.out) | (with_reducible refine Kd.C_alloc ?_ _) | (with_reducible refine Kd.C_drewN ?_ _) | (with_reducible refine Kd.C_drew ?_)))
             (case side2 => exact HC0_4.out)
             rintro e w66 ⟨v215, rfl, ho0, hb⟩
             refine ⟨_, rfl, ?_⟩
             have n0_ := Aside0.mk (Kd.R_below (by (with_reducible repeat (first | apply Kd.R_alloc | apply Kd.R_drewN | apply Kd.R_drew)); exact HO_5.out) hb)
             have n1_ := Aside0.mk (Kd.R_lower (Kd.R_newB ho0 (g := gb194) (o := .cells #[.int .u64 a1_0, .int .u64 a1_1] 49 (0, 0)) (by (with_reducible repeat (first | refine blk_drewN ?_ _ | refine blk_drew ?_ | refine blk_alloc ?_ _)); exact BK194.out)) (below_size (by repeat (first | (with_reducible first | exact HB.out | apply below_alloc | apply pw_below_drewN | apply below_drew1 | refine below_set ?_ GE193.out | refine below_set ?_ GE194.out | refine below_set ?_ GE202.out) | exact HB.out))))
             have n2_ := Aside0.mk (blk_below (g := gb193) (o := .cells #[.int .u64 a0_0, .int .i64 a0_1, .int .i64 a0_2, .int .i64 a0_3, .slice A0_4 l0_4.length c0_4, .int .u64 a0_5, .bool a0_6] 44 (0, 0)) (by (with_reducible repeat (first | refine blk_drewN ?_ _ | refine blk_drew ?_ | refine blk_alloc ?_ _)); exact BK193.out) hb)
             have n3_ := Aside0.mk (blk_below (g := gb194) (o := .cells #[.int .u64 a1_0, .int .u64 a1_1] 49 (0, 0)) (by (with_reducible repeat (first | refine blk_drewN ?_ _ | refine blk_drew ?_ | refine blk_alloc ?_ _)); exact BK194.out) hb)
             have n4_ := Aside0.mk (blk_below (g := gb202) (o := .cells #[.int .u64 t199, .int .i64 t200, .int .i64 t201] 29 (0, 0)) (by (with_reducible repeat (first | refine blk_drewN ?_ _ | refine blk_drew ?_ | refine blk_alloc ?_ _)); exact BK202.out) hb)
             have n5_ := Aside0.mk (Kd.C_below (by repeat (first | (with_reducible exact HR206.out) | (with_reducible refine Kd.C_alloc ?_ _) | (with_reducible refine Kd.C_drewN ?_ _) | (with_reducible refine Kd.C_drew ?_) | exact HR206.out)) hb)
             have n6_ := Aside0.mk (below_step (by repeat (first | (with_reducible first | exact HB.out | apply below_alloc | apply pw_below_drewN | apply below_drew1 | refine below_set ?_ GE193.out | refine below_set ?_ GE194.out | refine below_set ?_ GE202.out) | exact HB.out)) hb)
             clear HO_5
             clear BK193
             clear BK194
             clear BK202
             clear HR206
             clear HB
             have HO_5 := n0_
             have HO216 := n1_
             have BK193 := n2_
             have BK194 := n3_
             have BK202 := n4_
             have HR206 := n5_
             have HB := n6_
             clear n0_ n1_ n2_ n3_ n4_ n5_ n6_
             (try clear hb)
             (try clear hb2)
             (try clear hk)
             (try clear hi)
             (try clear ho0)
             refine hK.out _ _ ⟨(blk_cell BK193.out 0).trans rfl, (blk_cell BK193.out 1).trans rfl, (blk_cell BK193.out 2).trans rfl, (blk_cell BK193.out 3).trans rfl, (blk_cell BK193.out 4).trans rfl, (blk_cell BK193.out 5).trans rfl, (blk_cell BK193.out 6).trans rfl, (blk_cell BK194.out 0).trans rfl, (blk_cell BK194.out 1).trans rfl⟩ (fun hHeld => ?_)
             clear hK K
             refine norm_ (a' := ?_) ?_ ?_
             rotate_left
             ·show Act.put _ (some 56) _ = _
              simp only [Act.put, Sa, Sb, Sc, i64_w, i32_w]
              rfl
             refine one_ (i := 4) (N := some 58) #[T,T,T,T,T,F,F] rfl rfl (by kernel_rfl) (by decide) (fun K hK => ?_)
             refine Kd.R_lit_step k49 _ 49 ?hg (N := 58) ?hd (xs := ([(⟨a1_0, a1_1⟩ : S49)] : List (S49))) (inner := [.int .u64 a1_0, .int .u64 a1_1]) (ok := fun _ => True) (okp := fun _ => True) ?hr ?hp (fun _ hk => hk) trivial (Below.refl _ _) (Nat.le_refl _) (by simp) ?_; (case hd => rfl); (case hg => rfl); (case hr => first | (go_simp; done) | (go_simp; rfl)); (case hp => exact (Reps.c2 (show Kd.M k49 _ _ _ (⟨a1_0, a1_1⟩ : S49) [.int .u64 a1_0, .int .u64 a1_1] from (k49_mkM _ _ _ (⟨a1_0, a1_1⟩ : S49) )) (Reps.none _ _)))
             intro v218 w67 ho68 hb hg_ hnew_
             clear hg_ hnew_
             (first | rw [← Ny217.out] at ho68 | (simp only [Int.reduceToNat] at ho68; rw [← Ny217.out] at ho68))
             have n0_ := Aside0.mk (Kd.R_below (by (with_reducible repeat (first | apply Kd.R_alloc | apply Kd.R_drewN | apply Kd.R_drew)); exact HO_5.out) hb)
             have n1_ := Aside0.mk (Kd.R_elder' (by (with_reducible repeat (first | apply Kd.R_alloc | apply Kd.R_drewN | apply Kd.R_drew)); exact HO216.out) (Kd.R_base ho68) hb)
             have n2_ := Aside0.mk (Kd.R_lower (Kd.R_newB (Kd.R_new' ho68 (Kd.R_lt (by (with_reducible repeat (first | apply Kd.R_alloc | apply Kd.R_drewN | apply Kd.R_drew)); exact HO216.out))) (g := gb194) (o := .cells #[.int .u64 a1_0, .int .u64 a1_1] 49 (0, 0)) (by (with_reducible repeat (first | refine blk_drewN ?_ _ | refine blk_drew ?_ | refine blk_alloc ?_ _)); exact BK194.out)) (below_size (by repeat (first | (with_reducible first | exact HB.out | apply below_alloc | apply pw_below_drewN | apply below_drew1 | refine below_set ?_ GE193.out | refine below_set ?_ GE194.out | refine below_set ?_ GE202.out) | exact HB.out))))
             have n3_ := Aside0.mk (blk_below (g := gb193) (o := .cells #[.int .u64 a0_0, .int .i64 a0_1, .int .i64 a0_2, .int .i64 a0_3, .slice A0_4 l0_4.length c0_4, .int .u64 a0_5, .bool a0_6] 44 (0, 0)) (by (with_reducible repeat (first | refine blk_drewN ?_ _ | refine blk_drew ?_ | refine blk_alloc ?_ _)); exact BK193.out) hb)
             have n4_ := Aside0.mk (blk_below (g := gb194) (o := .cells #[.int .u64 a1_0, .int .u64 a1_1] 49 (0, 0)) (by (with_reducible repeat (first | refine blk_drewN ?_ _ | refine blk_drew ?_ | refine blk_alloc ?_ _)); exact BK194.out) hb)
             have n5_ := Aside0.mk (blk_below (g := gb202) (o := .cells #[.int .u64 t199, .int .i64 t200, .int .i64 t201] 29 (0, 0)) (by (with_reducible repeat (first | refine blk_drewN ?_ _ | refine blk_drew ?_ | refine blk_alloc ?_ _)); exact BK202.out) hb)
             have n6_ := Aside0.mk (Kd.C_below (by repeat (first | (with_reducible exact HR206.out) | (with_reducible refine Kd.C_alloc ?_ _) | (with_reducible refine Kd.C_drewN ?_ _) | (with_reducible refine Kd.C_drew ?_) | exact HR206.out)) hb)
             have n7_ := Aside0.mk (below_step (by repeat (first | (with_reducible first | exact HB.out | apply below_alloc | apply pw_below_drewN | apply below_drew1 | refine below_set ?_ GE193.out | refine below_set ?_ GE194.out | refine below_set ?_ GE202.out) | exact HB.out)) hb)
             clear HO_5
             clear HO216
             clear BK193
             clear BK194
             clear BK202
             clear HR206
             clear HB
             have HO_5 := n0_
             have HO216 := n1_
             have HO219 := n2_
             have BK193 := n3_
             have BK194 := n4_
             have BK202 := n5_
             have HR206 := n6_
             have HB := n7_
             clear n0_ n1_ n2_ n3_ n4_ n5_ n6_ n7_
             clear hb ho68
             refine hK.out _ _ ⟨(blk_cell BK193.out 0).trans rfl, (blk_cell BK193.out 1).trans rfl, (blk_cell BK193.out 2).trans rfl, (blk_cell BK193.out 3).trans rfl, (blk_cell BK193.out 4).trans rfl, (blk_cell BK193.out 5).trans rfl, (blk_cell BK193.out 6).trans rfl, (blk_cell BK194.out 0).trans rfl, (blk_cell BK194.out 1).trans rfl⟩ (fun hHeld => ?_)
             clear hK K
             refine norm_ (a' := ?_) ?_ ?_
             rotate_left
             ·show Act.put _ (some 58) _ = _
              simp only [Act.put, Sa, Sb, Sc, i64_w, i32_w]
              rfl
             exact norm_ (by simp only [putAll, Act.put, Sa, Sb, Sc]) (hCont (v215, v218) _ ⟨hHeld, (by (with_reducible repeat (first | apply Kd.R_alloc | apply Kd.R_drewN | apply Kd.R_drew)); exact Kd.R_mono HO216.out (fun _ hk => ⟨hk.2, hk.1.2⟩)), (by (with_reducible repeat (first | apply Kd.R_alloc | apply Kd.R_drewN | apply Kd.R_drew)); exact Kd.R_mono HO219.out (fun _ hk => ⟨hk.1.2, hk.2⟩)), (by (with_reducible repeat (first | apply Kd.R_alloc | apply Kd.R_drewN | apply Kd.R_drew)); exact HO_5.out), (by (with_reducible repeat (first | refine blk_drewN ?_ _ | refine blk_drew ?_ | refine blk_alloc ?_ _)); exact BK193.out), (by (with_reducible repeat (first | refine blk_drewN ?_ _ | refine blk_drew ?_ | refine blk_alloc ?_ _)); exact BK194.out), (by (with_reducible repeat (first | refine blk_drewN ?_ _ | refine blk_drew ?_ | refine blk_alloc ?_ _)); exact BK202.out), (by repeat (first | (with_reducible first | exact HB.out | apply below_alloc | apply pw_below_drewN | apply below_drew1 | refine below_set ?_ GE193.out | refine below_set ?_ GE194.out | refine below_set ?_ GE202.out) | exact HB.out))⟩)
            ·skip
             refine Kd.R_lit_step k49 _ 49 ?hg (N := 58) ?hd (xs := ([(⟨a1_0, a1_1⟩ : S49)] : List (S49))) (inner := [.int .u64 a1_0, .int .u64 a1_1]) (ok := fun _ => True) (okp := fun _ => True) ?hr ?hp (fun _ hk => hk) trivial (Below.refl _ _) (Nat.le_refl _) (by simp) ?_; (case hd => rfl); (case hg => rfl); (case hr => first | (go_simp; done) | (go_simp; rfl)); (case hp => exact (Reps.c2 (show Kd.M k49 _ _ _ (⟨a1_0, a1_1⟩ : S49) [.int .u64 a1_0, .int .u64 a1_1] from (k49_mkM _ _ _ (⟨a1_0, a1_1⟩ : S49) )) (Reps.none _ _)))
             intro v218 w66 ho67 hb hg_ hnew_
             clear hg_ hnew_
             (first | rw [← Ny217.out] at ho67 | (simp only [Int.reduceToNat] at ho67; rw [← Ny217.out] at ho67))
             have n0_ := Aside0.mk (Kd.R_below (by (with_reducible repeat (first | apply Kd.R_alloc | apply Kd.R_drewN | apply Kd.R_drew)); exact HO_5.out) hb)
             have n1_ := Aside0.mk (Kd.R_lower (Kd.R_newB ho67 (g := gb194) (o := .cells #[.int .u64 a1_0, .int .u64 a1_1] 49 (0, 0)) (by (with_reducible repeat (first | refine blk_drewN ?_ _ | refine blk_drew ?_ | refine blk_alloc ?_ _)); exact BK194.out)) (below_size (by repeat (first | (with_reducible first | exact HB.out | apply below_alloc | apply pw_below_drewN | apply below_drew1 | refine below_set ?_ GE193.out | refine below_set ?_ GE194.out | refine below_set ?_ GE202.out) | exact HB.out))))
             have n2_ := Aside0.mk (blk_below (g := gb193) (o := .cells #[.int .u64 a0_0, .int .i64 a0_1, .int .i64 a0_2, .int .i64 a0_3, .slice A0_4 l0_4.length c0_4, .int .u64 a0_5, .bool a0_6] 44 (0, 0)) (by (with_reducible repeat (first | refine blk_drewN ?_ _ | refine blk_drew ?_ | refine blk_alloc ?_ _)); exact BK193.out) hb)
             have n3_ := Aside0.mk (blk_below (g := gb194) (o := .cells #[.int .u64 a1_0, .int .u64 a1_1] 49 (0, 0)) (by (with_reducible repeat (first | refine blk_drewN ?_ _ | refine blk_drew ?_ | refine blk_alloc ?_ _)); exact BK194.out) hb)
             have n4_ := Aside0.mk (blk_below (g := gb202) (o := .cells #[.int .u64 t199, .int .i64 t200, .int .i64 t201] 29 (0, 0)) (by (with_reducible repeat (first | refine blk_drewN ?_ _ | refine blk_drew ?_ | refine blk_alloc ?_ _)); exact BK202.out) hb)
             have n5_ := Aside0.mk (Kd.C_below (by repeat (first | (with_reducible exact HR206.out) | (with_reducible refine Kd.C_alloc ?_ _) | (with_reducible refine Kd.C_drewN ?_ _) | (with_reducible refine Kd.C_drew ?_) | exact HR206.out)) hb)
             have n6_ := Aside0.mk (below_step (by repeat (first | (with_reducible first | exact HB.out | apply below_alloc | apply pw_below_drewN | apply below_drew1 | refine below_set ?_ GE193.out | refine below_set ?_ GE194.out | refine below_set ?_ GE202.out) | exact HB.out)) hb)
             clear HO_5
             clear BK193
             clear BK194
             clear BK202
             clear HR206
             clear HB
             have HO_5 := n0_
             have HO219 := n1_
             have BK193 := n2_
             have BK194 := n3_
             have BK202 := n4_
             have HR206 := n5_
             have HB := n6_
             clear n0_ n1_ n2_ n3_ n4_ n5_ n6_
             clear hb ho67
             refine hK.out _ _ ⟨(blk_cell BK193.out 0).trans rfl, (blk_cell BK193.out 1).trans rfl, (blk_cell BK193.out 2).trans rfl, (blk_cell BK193.out 3).trans rfl, (blk_cell BK193.out 4).trans rfl, (blk_cell BK193.out 5).trans rfl, (blk_cell BK193.out 6).trans rfl, (blk_cell BK194.out 0).trans rfl, (blk_cell BK194.out 1).trans rfl⟩ (fun hHeld => ?_)
             clear hK K
             refine norm_ (a' := ?_) ?_ ?_
             rotate_left
             ·show Act.put _ (some 58) _ = _
              simp only [Act.put, Sa, Sb, Sc, i64_w, i32_w]
              rfl
             refine one_ (i := 2) (N := some 56) #[T,T,T,T,T,F,F] rfl rfl (by kernel_rfl) (by decide) (fun K hK => ?_)
             refine goes_ Try.func22 (by kernel_rfl) rfl #[.slice A0_4 l0_4.length c0_4] (by rfl) rfl rfl (by (try simp only [List.map_toArray, List.map_cons, List.map_nil]); first | done | rfl | (simp only [List.length_drop, List.length_take]; rfl)) ?_
             with_reducible refine (croftlaw11_turned.calls k1 _ _ l0_4 t214 _ ?side1 ?side2 A55.out).mono ?_
             (case side1 => repeat (first | exact (Kd.C_below HR0_4.out HB.out) | (with_reducible refine Kd.C_alloc ?_ _) | (with_reducible refine Kd.C_drewN ?_ _) | (with_reducible refine Kd.C_drew ?_)))
             (case side2 => exact HC0_4.out)
             rintro e w68 ⟨v215, rfl, ho0, hb⟩
             refine ⟨_, rfl, ?_⟩
             have n0_ := Aside0.mk (Kd.R_below (by (with_reducible repeat (first | apply Kd.R_alloc | apply Kd.R_drewN | apply Kd.R_drew)); exact HO_5.out) hb)
             have n1_ := Aside0.mk (Kd.R_elder' (by (with_reducible repeat (first | apply Kd.R_alloc | apply Kd.R_drewN | apply Kd.R_drew)); exact HO219.out) (Kd.R_base ho0) hb)
             have n2_ := Aside0.mk (Kd.R_lower (Kd.R_newB (Kd.R_new' ho0 (Kd.R_lt (by (with_reducible repeat (first | apply Kd.R_alloc | apply Kd.R_drewN | apply Kd.R_drew)); exact HO219.out))) (g := gb194) (o := .cells #[.int .u64 a1_0, .int .u64 a1_1] 49 (0, 0)) (by (with_reducible repeat (first | refine blk_drewN ?_ _ | refine blk_drew ?_ | refine blk_alloc ?_ _)); exact BK194.out)) (below_size (by repeat (first | (with_reducible first | exact HB.out | apply below_alloc | apply pw_below_drewN | apply below_drew1 | refine below_set ?_ GE193.out | refine below_set ?_ GE194.out | refine below_set ?_ GE202.out) | exact HB.out))))
             have n3_ := Aside0.mk (blk_below (g := gb193) (o := .cells #[.int .u64 a0_0, .int .i64 a0_1, .int .i64 a0_2, .int .i64 a0_3, .slice A0_4 l0_4.length c0_4, .int .u64 a0_5, .bool a0_6] 44 (0, 0)) (by (with_reducible repeat (first | refine blk_drewN ?_ _ | refine blk_drew ?_ | refine blk_alloc ?_ _)); exact BK193.out) hb)
             have n4_ := Aside0.mk (blk_below (g := gb194) (o := .cells #[.int .u64 a1_0, .int .u64 a1_1] 49 (0, 0)) (by (with_reducible repeat (first | refine blk_drewN ?_ _ | refine blk_drew ?_ | refine blk_alloc ?_ _)); exact BK194.out) hb)
             have n5_ := Aside0.mk (blk_below (g := gb202) (o := .cells #[.int .u64 t199, .int .i64 t200, .int .i64 t201] 29 (0, 0)) (by (with_reducible repeat (first | refine blk_drewN ?_ _ | refine blk_drew ?_ | refine blk_alloc ?_ _)); exact BK202.out) hb)
             have n6_ := Aside0.mk (Kd.C_below (by repeat (first | (with_reducible exact HR206.out) | (with_reducible refine Kd.C_alloc ?_ _) | (with_reducible refine Kd.C_drewN ?_ _) | (with_reducible refine Kd.C_drew ?_) | exact HR206.out)) hb)
             have n7_ := Aside0.mk (below_step (by repeat (first | (with_reducible first | exact HB.out | apply below_alloc | apply pw_below_drewN | apply below_drew1 | refine below_set ?_ GE193.out | refine below_set ?_ GE194.out | refine below_set ?_ GE202.out) | exact HB.out)) hb)
             clear HO_5
             clear HO219
             clear BK193
             clear BK194
             clear BK202
             clear HR206
             clear HB
             have HO_5 := n0_
             have HO219 := n1_
             have HO216 := n2_
             have BK193 := n3_
             have BK194 := n4_
             have BK202 := n5_
             have HR206 := n6_
             have HB := n7_
             clear n0_ n1_ n2_ n3_ n4_ n5_ n6_ n7_
             (try clear hb)
             (try clear hb2)
             (try clear hk)
             (try clear hi)
             (try clear ho0)
             refine hK.out _ _ ⟨(blk_cell BK193.out 0).trans rfl, (blk_cell BK193.out 1).trans rfl, (blk_cell BK193.out 2).trans rfl, (blk_cell BK193.out 3).trans rfl, (blk_cell BK193.out 4).trans rfl, (blk_cell BK193.out 5).trans rfl, (blk_cell BK193.out 6).trans rfl, (blk_cell BK194.out 0).trans rfl, (blk_cell BK194.out 1).trans rfl⟩ (fun hHeld => ?_)
             clear hK K
             refine norm_ (a' := ?_) ?_ ?_
             rotate_left
             ·show Act.put _ (some 56) _ = _
              simp only [Act.put, Sa, Sb, Sc, i64_w, i32_w]
              rfl
             exact norm_ (by simp only [putAll, Act.put, Sa, Sb, Sc]) (hCont (v215, v218) _ ⟨hHeld, (by (with_reducible repeat (first | apply Kd.R_alloc | apply Kd.R_drewN | apply Kd.R_drew)); exact Kd.R_mono HO216.out (fun _ hk => ⟨hk.1.2, hk.2⟩)), (by (with_reducible repeat (first | apply Kd.R_alloc | apply Kd.R_drewN | apply Kd.R_drew)); exact Kd.R_mono HO219.out (fun _ hk => ⟨hk.2, hk.1.2⟩)), (by (with_reducible repeat (first | apply Kd.R_alloc | apply Kd.R_drewN | apply Kd.R_drew)); exact HO_5.out), (by (with_reducible repeat (first | refine blk_drewN ?_ _ | refine blk_drew ?_ | refine blk_alloc ?_ _)); exact BK193.out), (by (with_reducible repeat (first | refine blk_drewN ?_ _ | refine blk_drew ?_ | refine blk_alloc ?_ _)); exact BK194.out), (by (with_reducible repeat (first | refine blk_drewN ?_ _ | refine blk_drew ?_ | refine blk_alloc ?_ _)); exact BK202.out), (by repeat (first | (with_reducible first | exact HB.out | apply below_alloc | apply pw_below_drewN | apply below_drew1 | refine below_set ?_ GE193.out | refine below_set ?_ GE194.out | refine below_set ?_ GE202.out) | exact HB.out))⟩)
           rintro ⟨v215, v218⟩ w69 ⟨hS_, h0_, h1_, h2_, h3_, h4_, h5_, h6_⟩
           have n0_ : Aside0 (Kd.R k49 49 w69 w.heap.size (fun k_ => some k_ ≠ (v218 : Value).ownBlock ∧ k_ ≠ gb194) v215 t214) := ⟨h0_⟩
           have n1_ : Aside0 (Kd.R k49 49 w69 w.heap.size (fun k_ => some k_ ≠ (v215 : Value).ownBlock ∧ k_ ≠ gb194) v218 y217) := ⟨h1_⟩
           have n2_ : Aside0 (Kd.R k55 55 w69 w.heap.size (fun _ => True) (.slice Ao26 t196.length co26) t196) := ⟨h2_⟩
           have n3_ : Aside0 (w69.heap[gb193]? = some (.cells #[.int .u64 a0_0, .int .i64 a0_1, .int .i64 a0_2, .int .i64 a0_3, .slice A0_4 l0_4.length c0_4, .int .u64 a0_5, .bool a0_6] 44 (0, 0))) := ⟨h3_⟩
           have n4_ : Aside0 (w69.heap[gb194]? = some (.cells #[.int .u64 a1_0, .int .u64 a1_1] 49 (0, 0))) := ⟨h4_⟩
           have n5_ : Aside0 (w69.heap[gb202]? = some (.cells #[.int .u64 t199, .int .i64 t200, .int .i64 t201] 29 (0, 0))) := ⟨h5_⟩
           have n6_ : Aside0 (Below w.heap.size w w69) := ⟨h6_⟩
           clear HO_5
           clear BK193
           clear BK194
           clear BK202
           clear HR206
           clear HB
           clear h0_ h1_ h2_ h3_ h4_ h5_ h6_
           have HO216 := n0_
           have HO219 := n1_
           have HO_5 := n2_
           have BK193 := n3_
           have BK194 := n4_
           have BK202 := n5_
           have HB := n6_
           clear n0_ n1_ n2_ n3_ n4_ n5_ n6_
           have hHeld : w69.cell? ⟨gb193, 0, none⟩ = some (.int .u64 a0_0) ∧ w69.cell? ⟨gb193, 1, none⟩ = some (.int .i64 a0_1) ∧ w69.cell? ⟨gb193, 2, none⟩ = some (.int .i64 a0_2) ∧ w69.cell? ⟨gb193, 3, none⟩ = some (.int .i64 a0_3) ∧ w69.cell? ⟨gb193, 4, none⟩ = some (.slice A0_4 l0_4.length c0_4) ∧ w69.cell? ⟨gb193, 5, none⟩ = some (.int .u64 a0_5) ∧ w69.cell? ⟨gb193, 6, none⟩ = some (.bool a0_6) ∧ w69.cell? ⟨gb194, 0, none⟩ = some (.int .u64 a1_0) ∧ w69.cell? ⟨gb194, 1, none⟩ = some (.int .u64 a1_1) := hS_
           obtain ⟨Ao71, co71, eo71⟩ := Kd.R_slice HO219.out
           (first | subst eo71 | (injection eo71 with f1_ f2_ f3_; have f4_ := f1_.symm; have f5_ := f3_.symm; clear f1_ f2_ f3_; subst f4_; subst f5_))
           refine norm_ (a' := ?_) ?_ ?_
           rotate_left
           ·simp only [putAll, Act.put, Sa, Sb, Sc]
            rfl
           refine one_ (i := 5) (N := some 59) #[T,T,T,T,T,T,F] rfl rfl (by kernel_rfl) (by decide) (fun K hK => ?_)
           refine Kd.R_append_rows_step k49 (w0 := w) w.heap.size (by rfl) (.tmp 56) (.tmp 58) 25 49 (.agg #[(.int .u64 0), (.int .u64 0)]) 16 rfl Try.underlying25 info49 rfl (by decide) (by omega) v215 t214 y217 _ _ _ (fun k_ => some k_ ≠ (.slice Ao71 y217.length co71 : Value).ownBlock ∧ k_ ≠ gb194) (fun _ => False) rfl rfl ?aO ?aR (fun _ _ h => h) (fun _ h => h.elim) ?aF ?aB ?aS ?aL ?_
           (case aR => repeat (first | exact (Kd.R_reads' HO219.out).2.2 | (with_reducible refine Kd.C_alloc ?_ _) | (with_reducible refine Kd.C_drewN ?_ _) | (with_reducible refine Kd.C_drew ?_)))
           (case aB => exact (by repeat (first | (with_reducible first | exact HB.out | apply below_alloc | apply pw_below_drewN | apply below_drew1 | refine below_set ?_ GE193.out | refine below_set ?_ GE194.out | refine below_set ?_ GE202.out) | exact HB.out)))
           (case aF => exact (fun k_ hk => ⟨Kd.fresh' (Kd.R_lt (by (with_reducible repeat (first | apply Kd.R_alloc | apply Kd.R_drewN | apply Kd.R_drew)); exact HO219.out)) k_ hk, Kd.freshB (g := gb194) (o := .cells #[.int .u64 a1_0, .int .u64 a1_1] 49 (0, 0)) (by (with_reducible repeat (first | refine blk_drewN ?_ _ | refine blk_drew ?_ | refine blk_alloc ?_ _)); exact BK194.out) k_ hk⟩))
           (case aO => exact (by (with_reducible repeat (first | apply Kd.R_alloc | apply Kd.R_drewN | apply Kd.R_drew)); exact HO216.out))
           (case aS => exact (below_size (by repeat (first | (with_reducible first | exact HB.out | apply below_alloc | apply pw_below_drewN | apply below_drew1 | refine below_set ?_ GE193.out | refine below_set ?_ GE194.out | refine below_set ?_ GE202.out) | exact HB.out))))
           (case aL => have := LMc56.out; omega)
           intro v221 w70 ho hb hg hat
           rw [← Ny220.out] at ho
           have n0_ := Aside0.mk (Kd.R_over' (by (with_reducible repeat (first | apply Kd.R_alloc | apply Kd.R_drewN | apply Kd.R_drew)); exact HO_5.out) (Kd.R_typed (by (with_reducible repeat (first | apply Kd.R_alloc | apply Kd.R_drewN | apply Kd.R_drew)); exact HO216.out)) (by decide) hg)
           have n1_ := Aside0.mk (blk_grown (g := gb193) (o := .cells #[.int .u64 a0_0, .int .i64 a0_1, .int .i64 a0_2, .int .i64 a0_3, .slice A0_4 l0_4.length c0_4, .int .u64 a0_5, .bool a0_6] 44 (0, 0)) (by (with_reducible repeat (first | refine blk_drewN ?_ _ | refine blk_drew ?_ | refine blk_alloc ?_ _)); exact BK193.out) hg (Kd.R_ne HO216.out BK193.out (by decide)))
           have n2_ := Aside0.mk (blk_grown (g := gb194) (o := .cells #[.int .u64 a1_0, .int .u64 a1_1] 49 (0, 0)) (by (with_reducible repeat (first | refine blk_drewN ?_ _ | refine blk_drew ?_ | refine blk_alloc ?_ _)); exact BK194.out) hg (Kd.R_away HO216.out (fun _ hk => hk.2)))
           have n3_ := Aside0.mk (blk_grown (g := gb202) (o := .cells #[.int .u64 t199, .int .i64 t200, .int .i64 t201] 29 (0, 0)) (by (with_reducible repeat (first | refine blk_drewN ?_ _ | refine blk_drew ?_ | refine blk_alloc ?_ _)); exact BK202.out) hg (Kd.R_ne HO216.out BK202.out (by decide)))
           have n4_ := Aside0.mk (Kd.R_after (ok := (fun k_ => k_ ≠ gb194)) (by (with_reducible repeat (first | apply Kd.R_alloc | apply Kd.R_drewN | apply Kd.R_drew)); exact Kd.R_mono HO219.out (fun _ hk => ⟨hk.2, hk.1⟩)) hg hat)
           have n5_ := Aside0.mk (hb)
           have n6_ := Aside0.mk (ho)
           clear HO_5
           clear BK193
           clear BK194
           clear BK202
           clear HO219
           clear HB
           clear HO216
           have HO_5 := n0_
           have BK193 := n1_
           have BK194 := n2_
           have BK202 := n3_
           have HO219 := n4_
           have HB := n5_
           have HO222 := n6_
           clear n0_ n1_ n2_ n3_ n4_ n5_ n6_
           clear ho hb hg hat
           refine hK.out _ _ ⟨(blk_cell BK193.out 0).trans rfl, (blk_cell BK193.out 1).trans rfl, (blk_cell BK193.out 2).trans rfl, (blk_cell BK193.out 3).trans rfl, (blk_cell BK193.out 4).trans rfl, (blk_cell BK193.out 5).trans rfl, (blk_cell BK193.out 6).trans rfl, (blk_cell BK194.out 0).trans rfl, (blk_cell BK194.out 1).trans rfl⟩ (fun hHeld => ?_)
           clear hK K
           refine norm_ (a' := ?_) ?_ ?_
           rotate_left
           ·show Act.put _ (some 59) _ = _
            simp only [Act.put, Sa, Sb, Sc, i64_w, i32_w]
            rfl
           refine pure_ (i := 6) (N := some 8) (v := ?_) (a' := ?_) #[T,T,T,T,T,T,T] rfl rfl (by kernel_rfl) (fun _ _ _ h => h) (Or.inl ⟨by rfl, ?_⟩) ?_ ?_
           rotate_left
           ·intro w'
            go_simp
            with_reducible rfl
           rotate_left
           ·simp only [Act.put, Sa, Sb, Sc, i64_w, i32_w]
            rfl
           refine done_ (by kernel_rfl) ?_
           obtain ⟨Ao72, co72, eo72⟩ := Kd.R_slice HO222.out
           subst eo72
           try go_wp2_with (first | ((with_reducible refine gate_callee (f := 13) rfl ?_); refine goesL_ (some 61) rfl rfl Try.func13 (by kernel_rfl) rfl #[.slice Ao72 y220.length co72] rfl (by (try simp only [List.map_toArray, List.map_cons, List.map_nil]); first | done | rfl | (simp only [List.length_drop, List.length_take]; rfl)) ?_; (with_reducible refine (croftlaw11_blocks.calls k1 _ _ y220 t223 _ ?side1 ?side2 A57.out).mono ?_); (case side1 => repeat (first | exact (Kd.R_reads' HO222.out).2.2 | (with_reducible refine Kd.C_alloc ?_ _) | (with_reducible refine Kd.C_drewN ?_ _) | (with_reducible refine Kd.C_drew ?_))); (case side2 => exact (Kd.R_reads' HO222.out).2.1); rintro e w73 ⟨v224, rfl, ho0, hb⟩; refine ⟨_, rfl, ?_⟩; have n0_ := Aside0.mk (Kd.R_elder' (by (with_reducible repeat (first | apply Kd.R_alloc | apply Kd.R_drewN | apply Kd.R_drew)); exact HO_5.out) (Kd.R_base ho0) hb); have n1_ := Aside0.mk (Kd.R_below (by (with_reducible repeat (first | apply Kd.R_alloc | apply Kd.R_drewN | apply Kd.R_drew)); exact HO219.out) hb); have n2_ := Aside0.mk (Kd.R_below (by (with_reducible repeat (first | apply Kd.R_alloc | apply Kd.R_drewN | apply Kd.R_drew)); exact HO222.out) hb); have n3_ := Aside0.mk (Kd.R_lower (Kd.R_new' ho0 (Kd.R_lt (by (with_reducible repeat (first | apply Kd.R_alloc | apply Kd.R_drewN | apply Kd.R_drew)); exact HO_5.out))) (below_size (by repeat (first | (with_reducible first | exact HB.out | apply below_alloc | apply pw_below_drewN | apply below_drew1 | refine below_set ?_ GE193.out | refine below_set ?_ GE194.out | refine below_set ?_ GE202.out) | exact HB.out)))); have n4_ := Aside0.mk (blk_below (g := gb193) (o := .cells #[.int .u64 a0_0, .int .i64 a0_1, .int .i64 a0_2, .int .i64 a0_3, .slice A0_4 l0_4.length c0_4, .int .u64 a0_5, .bool a0_6] 44 (0, 0)) (by (with_reducible repeat (first | refine blk_drewN ?_ _ | refine blk_drew ?_ | refine blk_alloc ?_ _)); exact BK193.out) hb); have n5_ := Aside0.mk (blk_below (g := gb194) (o := .cells #[.int .u64 a1_0, .int .u64 a1_1] 49 (0, 0)) (by (with_reducible repeat (first | refine blk_drewN ?_ _ | refine blk_drew ?_ | refine blk_alloc ?_ _)); exact BK194.out) hb); have n6_ := Aside0.mk (blk_below (g := gb202) (o := .cells #[.int .u64 t199, .int .i64 t200, .int .i64 t201] 29 (0, 0)) (by (with_reducible repeat (first | refine blk_drewN ?_ _ | refine blk_drew ?_ | refine blk_alloc ?_ _)); exact BK202.out) hb); have n7_ := Aside0.mk (below_step (by repeat (first | (with_reducible first | exact HB.out | apply below_alloc | apply pw_below_drewN | apply below_drew1 | refine below_set ?_ GE193.out | refine below_set ?_ GE194.out | refine below_set ?_ GE202.out) | exact HB.out)) hb); clear HO_5; clear HO219; clear HO222; clear BK193; clear BK194; clear BK202; clear HB; have HO_5 := n0_; have HO219 := n1_; have HO222 := n2_; have HO225 := n3_; have BK193 := n4_; have BK194 := n5_; have BK202 := n6_; have HB := n7_; clear n0_ n1_ n2_ n3_ n4_ n5_ n6_ n7_; (try clear hb); (try clear hb2); (try clear hk); (try clear hi); (try clear ho0); have hcz74_0 : w73.cell? ⟨gb193, 0, none⟩ = some (.int .u64 a0_0) := (blk_cell BK193.out 0).trans rfl; have hcz74_1 : w73.cell? ⟨gb193, 1, none⟩ = some (.int .i64 a0_1) := (blk_cell BK193.out 1).trans rfl; have hcz74_2 : w73.cell? ⟨gb193, 2, none⟩ = some (.int .i64 a0_2) := (blk_cell BK193.out 2).trans rfl; have hcz74_3 : w73.cell? ⟨gb193, 3, none⟩ = some (.int .i64 a0_3) := (blk_cell BK193.out 3).trans rfl; have hcz74_4 : w73.cell? ⟨gb193, 4, none⟩ = some (.slice A0_4 l0_4.length c0_4) := (blk_cell BK193.out 4).trans rfl; have hcz74_5 : w73.cell? ⟨gb193, 5, none⟩ = some (.int .u64 a0_5) := (blk_cell BK193.out 5).trans rfl; have hcz74_6 : w73.cell? ⟨gb193, 6, none⟩ = some (.bool a0_6) := (blk_cell BK193.out 6).trans rfl; have hfz74_0 := blk_frozen BK193.out 0; have hfz74_1 := blk_frozen BK193.out 1; have hfz74_2 := blk_frozen BK193.out 2; have hfz74_3 := blk_frozen BK193.out 3; have hfz74_4 := blk_frozen BK193.out 4; have hfz74_5 := blk_frozen BK193.out 5; have hfz74_6 := blk_frozen BK193.out 6) | ((with_reducible refine gate_callee (f := 16) rfl ?_); refine goesL_ (some 67) rfl rfl Try.func16 (by kernel_rfl) rfl #[.agg #[.int .u64 a0_0, .int .i64 a0_1, .int .i64 a0_2], .int .i64 a0_3, .slice Ao72 y220.length co72] rfl (by (try simp only [List.map_toArray, List.map_cons, List.map_nil]); first | done | rfl | (simp only [List.length_drop, List.length_take]; rfl)) ?_; (with_reducible refine (croftref11_Sound.calls k1 a0_0 a0_1 a0_2 a0_3 _ _ y220 t226 _ ?side1 ?side2 A58.out).mono ?_); (case side1 => repeat (first | exact (Kd.R_reads' HO222.out).2.2 | (with_reducible refine Kd.C_alloc ?_ _) | (with_reducible refine Kd.C_drewN ?_ _) | (with_reducible refine Kd.C_drew ?_))); (case side2 => exact (Kd.R_reads' HO222.out).2.1); rintro e w75 ⟨rfl, hb⟩; refine ⟨_, rfl, ?_⟩; have n0_ := Aside0.mk (Kd.R_below (by (with_reducible repeat (first | apply Kd.R_alloc | apply Kd.R_drewN | apply Kd.R_drew)); exact HO_5.out) hb); have n1_ := Aside0.mk (Kd.R_below (by (with_reducible repeat (first | apply Kd.R_alloc | apply Kd.R_drewN | apply Kd.R_drew)); exact HO219.out) hb); have n2_ := Aside0.mk (Kd.R_below (by (with_reducible repeat (first | apply Kd.R_alloc | apply Kd.R_drewN | apply Kd.R_drew)); exact HO222.out) hb); have n3_ := Aside0.mk (Kd.R_below (by (with_reducible repeat (first | apply Kd.R_alloc | apply Kd.R_drewN | apply Kd.R_drew)); exact HO225.out) hb); have n4_ := Aside0.mk (blk_below (g := gb193) (o := .cells #[.int .u64 a0_0, .int .i64 a0_1, .int .i64 a0_2, .int .i64 a0_3, .slice A0_4 l0_4.length c0_4, .int .u64 a0_5, .bool a0_6] 44 (0, 0)) (by (with_reducible repeat (first | refine blk_drewN ?_ _ | refine blk_drew ?_ | refine blk_alloc ?_ _)); exact BK193.out) hb); have n5_ := Aside0.mk (blk_below (g := gb194) (o := .cells #[.int .u64 a1_0, .int .u64 a1_1] 49 (0, 0)) (by (with_reducible repeat (first | refine blk_drewN ?_ _ | refine blk_drew ?_ | refine blk_alloc ?_ _)); exact BK194.out) hb); have n6_ := Aside0.mk (blk_below (g := gb202) (o := .cells #[.int .u64 t199, .int .i64 t200, .int .i64 t201] 29 (0, 0)) (by (with_reducible repeat (first | refine blk_drewN ?_ _ | refine blk_drew ?_ | refine blk_alloc ?_ _)); exact BK202.out) hb); have n7_ := Aside0.mk (below_step (by repeat (first | (with_reducible first | exact HB.out | apply below_alloc | apply pw_below_drewN | apply below_drew1 | refine below_set ?_ GE193.out | refine below_set ?_ GE194.out | refine below_set ?_ GE202.out) | exact HB.out)) hb); clear HO_5; clear HO219; clear HO222; clear HO225; clear BK193; clear BK194; clear BK202; clear HB; have HO_5 := n0_; have HO219 := n1_; have HO222 := n2_; have HO225 := n3_; have BK193 := n4_; have BK194 := n5_; have BK202 := n6_; have HB := n7_; clear n0_ n1_ n2_ n3_ n4_ n5_ n6_ n7_; (try clear hb); (try clear hb2); (try clear hk); (try clear hi); have hcz76_0 : w75.cell? ⟨gb193, 0, none⟩ = some (.int .u64 a0_0) := (blk_cell BK193.out 0).trans rfl; have hcz76_1 : w75.cell? ⟨gb193, 1, none⟩ = some (.int .i64 a0_1) := (blk_cell BK193.out 1).trans rfl; have hcz76_2 : w75.cell? ⟨gb193, 2, none⟩ = some (.int .i64 a0_2) := (blk_cell BK193.out 2).trans rfl; have hcz76_3 : w75.cell? ⟨gb193, 3, none⟩ = some (.int .i64 a0_3) := (blk_cell BK193.out 3).trans rfl; have hcz76_4 : w75.cell? ⟨gb193, 4, none⟩ = some (.slice A0_4 l0_4.length c0_4) := (blk_cell BK193.out 4).trans rfl; have hcz76_5 : w75.cell? ⟨gb193, 5, none⟩ = some (.int .u64 a0_5) := (blk_cell BK193.out 5).trans rfl; have hcz76_6 : w75.cell? ⟨gb193, 6, none⟩ = some (.bool a0_6) := (blk_cell BK193.out 6).trans rfl; have hfz76_0 := blk_frozen BK193.out 0; have hfz76_1 := blk_frozen BK193.out 1; have hfz76_2 := blk_frozen BK193.out 2; have hfz76_3 := blk_frozen BK193.out 3; have hfz76_4 := blk_frozen BK193.out 4; have hfz76_5 := blk_frozen BK193.out 5; have hfz76_6 := blk_frozen BK193.out 6))
           go_ret
           exact ⟨by first | rfl | (simp [errW_none, errW_some] <;> rfl) | (simp [*, errW_none, errW_some] <;> rfl), by repeat (first | (with_reducible first | exact HB.out | apply below_alloc | apply pw_below_drewN | apply below_drew1 | refine below_set ?_ GE193.out | refine below_set ?_ GE194.out | refine below_set ?_ GE202.out) | exact HB.out)⟩
          ·rw [if_neg c60] at H
           have c60b0 : decide (a0_5 < 4096) = false := decide_eq_false c60
           clear c60
           by_cases c77 : 0 ≤ (y220.length : Int)
           ·rw [if_pos c77] at H
            have c77b0 := eq_true c77
            have c77b1 : decide (0 ≤ (y220.length : Int)) = true := decide_eq_true c77
            clear c77
            by_cases c78 : (y220.length : Int) ≤ (t223.length : Int)
            ·rw [if_pos c78] at H
             have c78b0 := eq_true c78
             have c78b1 : decide ((y220.length : Int) ≤ (t223.length : Int)) = true := decide_eq_true c78
             clear c78
             obtain ⟨y227, hy227⟩ : ∃ y_ : List (S55), y_ = (t223.take ((y220.length : Int) : Int).toNat) := ⟨_, rfl⟩
             replace H : ((oracle_NoFit.f t199 t200 t201 a0_3 y227 a0_5).bind fun t231 => (some t231)) = some r := by first | (rw [hy227]; with_reducible exact H) | (have H2_ := (Option.bind_some _ _).symm.trans H; rw [hy227]; with_reducible exact H2_) | (have H2_ := (Option.bind_some _ _).symm.trans H; with_reducible exact H2_) | with_reducible exact H | (rw [hy227]; exact H) | exact H
             have Ny227 := Aside0.mk hy227
             clear hy227
             replace H := Option.bind_eq_some_iff.mp H
             obtain ⟨t231, A790, H⟩ := H
             replace H : (some t231) = some r := H
             have A79 := Aside0.mk A790
             clear A790
             obtain rfl := Option.some.inj H
             have hnb80 := NB193_194.out
             have hnc80 := NB194_193.out
             have hnb81 := NB193_202.out
             have hnc81 := NB202_193.out
             have hcz82_0 : wr.cell? ⟨gb193, 0, none⟩ = some (.int .u64 a0_0) := (blk_cell BK193.out 0).trans rfl
             have hcz82_1 : wr.cell? ⟨gb193, 1, none⟩ = some (.int .i64 a0_1) := (blk_cell BK193.out 1).trans rfl
             have hcz82_2 : wr.cell? ⟨gb193, 2, none⟩ = some (.int .i64 a0_2) := (blk_cell BK193.out 2).trans rfl
             have hcz82_3 : wr.cell? ⟨gb193, 3, none⟩ = some (.int .i64 a0_3) := (blk_cell BK193.out 3).trans rfl
             have hcz82_4 : wr.cell? ⟨gb193, 4, none⟩ = some (.slice A0_4 l0_4.length c0_4) := (blk_cell BK193.out 4).trans rfl
             have hcz82_5 : wr.cell? ⟨gb193, 5, none⟩ = some (.int .u64 a0_5) := (blk_cell BK193.out 5).trans rfl
             have hcz82_6 : wr.cell? ⟨gb193, 6, none⟩ = some (.bool a0_6) := (blk_cell BK193.out 6).trans rfl
             have hfz82_0 := blk_frozen BK193.out 0
             have hfz82_1 := blk_frozen BK193.out 1
             have hfz82_2 := blk_frozen BK193.out 2
             have hfz82_3 := blk_frozen BK193.out 3
             have hfz82_4 := blk_frozen BK193.out 4
             have hfz82_5 := blk_frozen BK193.out 5
             have hfz82_6 := blk_frozen BK193.out 6
             try go_wp2_with (first | ((with_reducible refine gate_callee (f := 24) rfl ?_); refine goesL_ (some 35) rfl rfl Try.func24 (by kernel_rfl) rfl #[.agg #[.int .u64 a0_0, .int .i64 a0_1, .int .i64 a0_2]] rfl (by (try simp only [List.map_toArray, List.map_cons, List.map_nil]); first | done | rfl | (simp only [List.length_drop, List.length_take]; rfl)) ?_; (with_reducible refine (croftref11_R.calls a0_0 a0_1 a0_2 t208 _ A29.out).mono ?_); rintro e w83 ⟨rfl, hb⟩; refine ⟨_, rfl, ?_⟩; have n0_ := Aside0.mk (Kd.R_below (by (with_reducible repeat (first | apply Kd.R_alloc | apply Kd.R_drewN | apply Kd.R_drew)); exact HO_5.out) hb); have n1_ := Aside0.mk (blk_below (g := gb193) (o := .cells #[.int .u64 a0_0, .int .i64 a0_1, .int .i64 a0_2, .int .i64 a0_3, .slice A0_4 l0_4.length c0_4, .int .u64 a0_5, .bool a0_6] 44 (0, 0)) (by (with_reducible repeat (first | refine blk_drewN ?_ _ | refine blk_drew ?_ | refine blk_alloc ?_ _)); exact BK193.out) hb); have n2_ := Aside0.mk (blk_below (g := gb194) (o := .cells #[.int .u64 a1_0, .int .u64 a1_1] 49 (0, 0)) (by (with_reducible repeat (first | refine blk_drewN ?_ _ | refine blk_drew ?_ | refine blk_alloc ?_ _)); exact BK194.out) hb); have n3_ := Aside0.mk (blk_below (g := gb202) (o := .cells #[.int .u64 t199, .int .i64 t200, .int .i64 t201] 29 (0, 0)) (by (with_reducible repeat (first | refine blk_drewN ?_ _ | refine blk_drew ?_ | refine blk_alloc ?_ _)); exact BK202.out) hb); have n4_ := Aside0.mk (Kd.C_below (by repeat (first | (with_reducible exact HR206.out) | (with_reducible refine Kd.C_alloc ?_ _) | (with_reducible refine Kd.C_drewN ?_ _) | (with_reducible refine Kd.C_drew ?_) | exact HR206.out)) hb); have n5_ := Aside0.mk (below_step (by repeat (first | (with_reducible first | exact HB.out | apply below_alloc | apply pw_below_drewN | apply below_drew1 | refine below_set ?_ GE193.out | refine below_set ?_ GE194.out | refine below_set ?_ GE202.out) | exact HB.out)) hb); clear HO_5; clear BK193; clear BK194; clear BK202; clear HR206; clear HB; have HO_5 := n0_; have BK193 := n1_; have BK194 := n2_; have BK202 := n3_; have HR206 := n4_; have HB := n5_; clear n0_ n1_ n2_ n3_ n4_ n5_; (try clear hb); (try clear hb2); (try clear hk); (try clear hi)))
             have n0_ := Aside0.mk (Kd.R_drew HO_5.out)
             have n1_ := Aside0.mk (blk_drew BK193.out)
             have n2_ := Aside0.mk (blk_drew BK194.out)
             have n3_ := Aside0.mk (blk_drew BK202.out)
             have n4_ := Aside0.mk (Kd.C_drew HR206.out)
             have n5_ := Aside0.mk (below_drew1 HB.out)
             clear HO_5
             clear BK193
             clear BK194
             clear BK202
             clear HR206
             clear HB
             have HO_5 := n0_
             have BK193 := n1_
             have BK194 := n2_
             have BK202 := n3_
             have HR206 := n4_
             have HB := n5_
             clear n0_ n1_ n2_ n3_ n4_ n5_
             refine start_ (n := 7) (S := fun w' => w'.cell? ⟨gb193, 0, none⟩ = some (.int .u64 a0_0) ∧ w'.cell? ⟨gb193, 1, none⟩ = some (.int .i64 a0_1) ∧ w'.cell? ⟨gb193, 2, none⟩ = some (.int .i64 a0_2) ∧ w'.cell? ⟨gb193, 3, none⟩ = some (.int .i64 a0_3) ∧ w'.cell? ⟨gb193, 4, none⟩ = some (.slice A0_4 l0_4.length c0_4) ∧ w'.cell? ⟨gb193, 5, none⟩ = some (.int .u64 a0_5) ∧ w'.cell? ⟨gb193, 6, none⟩ = some (.bool a0_6) ∧ w'.cell? ⟨gb194, 0, none⟩ = some (.int .u64 a1_0) ∧ w'.cell? ⟨gb194, 1, none⟩ = some (.int .u64 a1_1)) (ds := []) #[F,F,F,F,F,F,F] (by kernel_rfl) rfl rfl ⟨(blk_cell BK193.out 0).trans rfl, (blk_cell BK193.out 1).trans rfl, (blk_cell BK193.out 2).trans rfl, (blk_cell BK193.out 3).trans rfl, (blk_cell BK193.out 4).trans rfl, (blk_cell BK193.out 5).trans rfl, (blk_cell BK193.out 6).trans rfl, (blk_cell BK194.out 0).trans rfl, (blk_cell BK194.out 1).trans rfl⟩ (fun hHeld => ?_)
             generalize w83.drew = w84 at HO_5 BK193 BK194 BK202 HR206 HB hHeld ⊢
             refine pure_ (i := 0) (N := some 54) (v := ?_) (a' := ?_) #[T,F,F,F,F,F,F] rfl rfl (by kernel_rfl) (fun _ _ _ h => h) (Or.inl ⟨by rfl, ?_⟩) ?_ ?_
             rotate_left
             ·intro w'
              go_simp
              with_reducible rfl
             rotate_left
             ·simp only [Act.put, Sa, Sb, Sc, i64_w, i32_w]
              rfl
             refine take_ (i := 1) (N := some 55) (v := ?_) (a' := ?_) #[T,T,F,F,F,F,F] rfl rfl (by kernel_rfl) (fun _ _ _ h => h) (Or.inl ⟨by rfl, ?_⟩) hHeld ?_ ?_
             rotate_left
             ·rintro w' ⟨s0, s1, s2, s3, s4, s5, s6, s7, s8⟩
              go_simp
              with_reducible rfl
             rotate_left
             ·simp only [Act.put, Sa, Sb, Sc, i64_w, i32_w]
              rfl
             refine take_ (i := 3) (N := some 57) (v := ?_) (a' := ?_) #[T,T,F,T,F,F,F] rfl rfl (by kernel_rfl) (fun _ _ _ h => h) (Or.inl ⟨by rfl, ?_⟩) hHeld ?_ ?_
             rotate_left
             ·rintro w' ⟨s0, s1, s2, s3, s4, s5, s6, s7, s8⟩
              go_simp
              with_reducible rfl
             rotate_left
             ·simp only [Act.put, Sa, Sb, Sc, i64_w, i32_w]
              rfl
             refine join_ (σ := Value × Value) 2 #[T,T,T,T,T,F,F] (fun s_ => [(56, s_.1), (58, s_.2)]) (fun s_ w' => (w'.cell? ⟨gb193, 0, none⟩ = some (.int .u64 a0_0) ∧ w'.cell? ⟨gb193, 1, none⟩ = some (.int .i64 a0_1) ∧ w'.cell? ⟨gb193, 2, none⟩ = some (.int .i64 a0_2) ∧ w'.cell? ⟨gb193, 3, none⟩ = some (.int .i64 a0_3) ∧ w'.cell? ⟨gb193, 4, none⟩ = some (.slice A0_4 l0_4.length c0_4) ∧ w'.cell? ⟨gb193, 5, none⟩ = some (.int .u64 a0_5) ∧ w'.cell? ⟨gb193, 6, none⟩ = some (.bool a0_6) ∧ w'.cell? ⟨gb194, 0, none⟩ = some (.int .u64 a1_0) ∧ w'.cell? ⟨gb194, 1, none⟩ = some (.int .u64 a1_1)) ∧ (Kd.R k49 49 w' w.heap.size (fun k_ => some k_ ≠ (s_.2 : Value).ownBlock ∧ k_ ≠ gb194) s_.1 t214) ∧ (Kd.R k49 49 w' w.heap.size (fun k_ => some k_ ≠ (s_.1 : Value).ownBlock ∧ k_ ≠ gb194) s_.2 y217) ∧ (Kd.R k55 55 w' w.heap.size (fun _ => True) (.slice Ao26 t196.length co26) t196) ∧ (w'.heap[gb193]? = some (.cells #[.int .u64 a0_0, .int .i64 a0_1, .int .i64 a0_2, .int .i64 a0_3, .slice A0_4 l0_4.length c0_4, .int .u64 a0_5, .bool a0_6] 44 (0, 0))) ∧ (w'.heap[gb194]? = some (.cells #[.int .u64 a1_0, .int .u64 a1_1] 49 (0, 0))) ∧ (w'.heap[gb202]? = some (.cells #[.int .u64 t199, .int .i64 t200, .int .i64 t201] 29 (0, 0))) ∧ (Below w.heap.size w w')) ?_ ?_
             rotate_left
             ·intro hCont
              refine two_ (i := 2) (j := 4) (Ni := some 56) (Nj := some 58) #[T,T,T,T,F,F,F] #[T,T,F,T,T,F,F] rfl rfl rfl rfl (by kernel_rfl) (by decide) (by decide) (fun K hK => ?_) (fun K hK => ?_)
              ·skip
               refine goes_ Try.func22 (by kernel_rfl) rfl #[.slice A0_4 l0_4.length c0_4] (by rfl) rfl rfl (by (try simp only [List.map_toArray, List.map_cons, List.map_nil]); first | done | rfl | (simp only [List.length_drop, List.length_take]; rfl)) ?_
               with_reducible refine (croftlaw11_turned.calls k1 _ _ l0_4 t214 _ ?side1 ?side2 A55.out).mono ?_
               (case side1 => repeat (first | exact (Kd.C_below HR0_4.out HB.out) | (with_reducible refine Kd.C_alloc ?_ _) | (with_reducible refine Kd.C_drewN ?_ _) | (with_reducible refine Kd.C_drew ?_)))
               (case side2 => exact HC0_4.out)
               rintro e w85 ⟨v215, rfl, ho0, hb⟩
               refine ⟨_, rfl, ?_⟩
               have n0_ := Aside0.mk (Kd.R_below (by (with_reducible repeat (first | apply Kd.R_alloc | apply Kd.R_drewN | apply Kd.R_drew)); exact HO_5.out) hb)
               have n1_ := Aside0.mk (Kd.R_lower (Kd.R_newB ho0 (g := gb194) (o := .cells #[.int .u64 a1_0, .int .u64 a1_1] 49 (0, 0)) (by (with_reducible repeat (first | refine blk_drewN ?_ _ | refine blk_drew ?_ | refine blk_alloc ?_ _)); exact BK194.out)) (below_size (by repeat (first | (with_reducible first | exact HB.out | apply below_alloc | apply pw_below_drewN | apply below_drew1 | refine below_set ?_ GE193.out | refine below_set ?_ GE194.out | refine below_set ?_ GE202.out) | exact HB.out))))
               have n2_ := Aside0.mk (blk_below (g := gb193) (o := .cells #[.int .u64 a0_0, .int .i64 a0_1, .int .i64 a0_2, .int .i64 a0_3, .slice A0_4 l0_4.length c0_4, .int .u64 a0_5, .bool a0_6] 44 (0, 0)) (by (with_reducible repeat (first | refine blk_drewN ?_ _ | refine blk_drew ?_ | refine blk_alloc ?_ _)); exact BK193.out) hb)
               have n3_ := Aside0.mk (blk_below (g := gb194) (o := .cells #[.int .u64 a1_0, .int .u64 a1_1] 49 (0, 0)) (by (with_reducible repeat (first | refine blk_drewN ?_ _ | refine blk_drew ?_ | refine blk_alloc ?_ _)); exact BK194.out) hb)
               have n4_ := Aside0.mk (blk_below (g := gb202) (o := .cells #[.int .u64 t199, .int .i64 t200, .int .i64 t201] 29 (0, 0)) (by (with_reducible repeat (first | refine blk_drewN ?_ _ | refine blk_drew ?_ | refine blk_alloc ?_ _)); exact BK202.out) hb)
               have n5_ := Aside0.mk (Kd.C_below (by repeat (first | (with_reducible exact HR206.out) | (with_reducible refine Kd.C_alloc ?_ _) | (with_reducible refine Kd.C_drewN ?_ _) | (with_reducible refine Kd.C_drew ?_) | exact HR206.out)) hb)
               have n6_ := Aside0.mk (below_step (by repeat (first | (with_reducible first | exact HB.out | apply below_alloc | apply pw_below_drewN | apply below_drew1 | refine below_set ?_ GE193.out | refine below_set ?_ GE194.out | refine below_set ?_ GE202.out) | exact HB.out)) hb)
               clear HO_5
               clear BK193
               clear BK194
               clear BK202
               clear HR206
               clear HB
               have HO_5 := n0_
               have HO216 := n1_
               have BK193 := n2_
               have BK194 := n3_
               have BK202 := n4_
               have HR206 := n5_
               have HB := n6_
               clear n0_ n1_ n2_ n3_ n4_ n5_ n6_
               (try clear hb)
               (try clear hb2)
               (try clear hk)
               (try clear hi)
               (try clear ho0)
               refine hK.out _ _ ⟨(blk_cell BK193.out 0).trans rfl, (blk_cell BK193.out 1).trans rfl, (blk_cell BK193.out 2).trans rfl, (blk_cell BK193.out 3).trans rfl, (blk_cell BK193.out 4).trans rfl, (blk_cell BK193.out 5).trans rfl, (blk_cell BK193.out 6).trans rfl, (blk_cell BK194.out 0).trans rfl, (blk_cell BK194.out 1).trans rfl⟩ (fun hHeld => ?_)
               clear hK K
               refine norm_ (a' := ?_) ?_ ?_
               rotate_left
               ·show Act.put _ (some 56) _ = _
                simp only [Act.put, Sa, Sb, Sc, i64_w, i32_w]
                rfl
               refine one_ (i := 4) (N := some 58) #[T,T,T,T,T,F,F] rfl rfl (by kernel_rfl) (by decide) (fun K hK => ?_)
               refine Kd.R_lit_step k49 _ 49 ?hg (N := 58) ?hd (xs := ([(⟨a1_0, a1_1⟩ : S49)] : List (S49))) (inner := [.int .u64 a1_0, .int .u64 a1_1]) (ok := fun _ => True) (okp := fun _ => True) ?hr ?hp (fun _ hk => hk) trivial (Below.refl _ _) (Nat.le_refl _) (by simp) ?_; (case hd => rfl); (case hg => rfl); (case hr => first | (go_simp; done) | (go_simp; rfl)); (case hp => exact (Reps.c2 (show Kd.M k49 _ _ _ (⟨a1_0, a1_1⟩ : S49) [.int .u64 a1_0, .int .u64 a1_1] from (k49_mkM _ _ _ (⟨a1_0, a1_1⟩ : S49) )) (Reps.none _ _)))
               intro v218 w86 ho87 hb hg_ hnew_
               clear hg_ hnew_
               (first | rw [← Ny217.out] at ho87 | (simp only [Int.reduceToNat] at ho87; rw [← Ny217.out] at ho87))
               have n0_ := Aside0.mk (Kd.R_below (by (with_reducible repeat (first | apply Kd.R_alloc | apply Kd.R_drewN | apply Kd.R_drew)); exact HO_5.out) hb)
               have n1_ := Aside0.mk (Kd.R_elder' (by (with_reducible repeat (first | apply Kd.R_alloc | apply Kd.R_drewN | apply Kd.R_drew)); exact HO216.out) (Kd.R_base ho87) hb)
               have n2_ := Aside0.mk (Kd.R_lower (Kd.R_newB (Kd.R_new' ho87 (Kd.R_lt (by (with_reducible repeat (first | apply Kd.R_alloc | apply Kd.R_drewN | apply Kd.R_drew)); exact HO216.out))) (g := gb194) (o := .cells #[.int .u64 a1_0, .int .u64 a1_1] 49 (0, 0)) (by (with_reducible repeat (first | refine blk_drewN ?_ _ | refine blk_drew ?_ | refine blk_alloc ?_ _)); exact BK194.out)) (below_size (by repeat (first | (with_reducible first | exact HB.out | apply below_alloc | apply pw_below_drewN | apply below_drew1 | refine below_set ?_ GE193.out | refine below_set ?_ GE194.out | refine below_set ?_ GE202.out) | exact HB.out))))
               have n3_ := Aside0.mk (blk_below (g := gb193) (o := .cells #[.int .u64 a0_0, .int .i64 a0_1, .int .i64 a0_2, .int .i64 a0_3, .slice A0_4 l0_4.length c0_4, .int .u64 a0_5, .bool a0_6] 44 (0, 0)) (by (with_reducible repeat (first | refine blk_drewN ?_ _ | refine blk_drew ?_ | refine blk_alloc ?_ _)); exact BK193.out) hb)
               have n4_ := Aside0.mk (blk_below (g := gb194) (o := .cells #[.int .u64 a1_0, .int .u64 a1_1] 49 (0, 0)) (by (with_reducible repeat (first | refine blk_drewN ?_ _ | refine blk_drew ?_ | refine blk_alloc ?_ _)); exact BK194.out) hb)
               have n5_ := Aside0.mk (blk_below (g := gb202) (o := .cells #[.int .u64 t199, .int .i64 t200, .int .i64 t201] 29 (0, 0)) (by (with_reducible repeat (first | refine blk_drewN ?_ _ | refine blk_drew ?_ | refine blk_alloc ?_ _)); exact BK202.out) hb)
               have n6_ := Aside0.mk (Kd.C_below (by repeat (first | (with_reducible exact HR206.out) | (with_reducible refine Kd.C_alloc ?_ _) | (with_reducible refine Kd.C_drewN ?_ _) | (with_reducible refine Kd.C_drew ?_) | exact HR206.out)) hb)
               have n7_ := Aside0.mk (below_step (by repeat (first | (with_reducible first | exact HB.out | apply below_alloc | apply pw_below_drewN | apply below_drew1 | refine below_set ?_ GE193.out | refine below_set ?_ GE194.out | refine below_set ?_ GE202.out) | exact HB.out)) hb)
               clear HO_5
               clear HO216
               clear BK193
               clear BK194
               clear BK202
               clear HR206
               clear HB
               have HO_5 := n0_
               have HO216 := n1_
               have HO219 := n2_
               have BK193 := n3_
               have BK194 := n4_
               have BK202 := n5_
               have HR206 := n6_
               have HB := n7_
               clear n0_ n1_ n2_ n3_ n4_ n5_ n6_ n7_
               clear hb ho87
               refine hK.out _ _ ⟨(blk_cell BK193.out 0).trans rfl, (blk_cell BK193.out 1).trans rfl, (blk_cell BK193.out 2).trans rfl, (blk_cell BK193.out 3).trans rfl, (blk_cell BK193.out 4).trans rfl, (blk_cell BK193.out 5).trans rfl, (blk_cell BK193.out 6).trans rfl, (blk_cell BK194.out 0).trans rfl, (blk_cell BK194.out 1).trans rfl⟩ (fun hHeld => ?_)
               clear hK K
               refine norm_ (a' := ?_) ?_ ?_
               rotate_left
               ·show Act.put _ (some 58) _ = _
                simp only [Act.put, Sa, Sb, Sc, i64_w, i32_w]
                rfl
               exact norm_ (by simp only [putAll, Act.put, Sa, Sb, Sc]) (hCont (v215, v218) _ ⟨hHeld, (by (with_reducible repeat (first | apply Kd.R_alloc | apply Kd.R_drewN | apply Kd.R_drew)); exact Kd.R_mono HO216.out (fun _ hk => ⟨hk.2, hk.1.2⟩)), (by (with_reducible repeat (first | apply Kd.R_alloc | apply Kd.R_drewN | apply Kd.R_drew)); exact Kd.R_mono HO219.out (fun _ hk => ⟨hk.1.2, hk.2⟩)), (by (with_reducible repeat (first | apply Kd.R_alloc | apply Kd.R_drewN | apply Kd.R_drew)); exact HO_5.out), (by (with_reducible repeat (first | refine blk_drewN ?_ _ | refine blk_drew ?_ | refine blk_alloc ?_ _)); exact BK193.out), (by (with_reducible repeat (first | refine blk_drewN ?_ _ | refine blk_drew ?_ | refine blk_alloc ?_ _)); exact BK194.out), (by (with_reducible repeat (first | refine blk_drewN ?_ _ | refine blk_drew ?_ | refine blk_alloc ?_ _)); exact BK202.out), (by repeat (first | (with_reducible first | exact HB.out | apply below_alloc | apply pw_below_drewN | apply below_drew1 | refine below_set ?_ GE193.out | refine below_set ?_ GE194.out | refine below_set ?_ GE202.out) | exact HB.out))⟩)
              ·skip
               refine Kd.R_lit_step k49 _ 49 ?hg (N := 58) ?hd (xs := ([(⟨a1_0, a1_1⟩ : S49)] : List (S49))) (inner := [.int .u64 a1_0, .int .u64 a1_1]) (ok := fun _ => True) (okp := fun _ => True) ?hr ?hp (fun _ hk => hk) trivial (Below.refl _ _) (Nat.le_refl _) (by simp) ?_; (case hd => rfl); (case hg => rfl); (case hr => first | (go_simp; done) | (go_simp; rfl)); (case hp => exact (Reps.c2 (show Kd.M k49 _ _ _ (⟨a1_0, a1_1⟩ : S49) [.int .u64 a1_0, .int .u64 a1_1] from (k49_mkM _ _ _ (⟨a1_0, a1_1⟩ : S49) )) (Reps.none _ _)))
               intro v218 w85 ho86 hb hg_ hnew_
               clear hg_ hnew_
               (first | rw [← Ny217.out] at ho86 | (simp only [Int.reduceToNat] at ho86; rw [← Ny217.out] at ho86))
               have n0_ := Aside0.mk (Kd.R_below (by (with_reducible repeat (first | apply Kd.R_alloc | apply Kd.R_drewN | apply Kd.R_drew)); exact HO_5.out) hb)
               have n1_ := Aside0.mk (Kd.R_lower (Kd.R_newB ho86 (g := gb194) (o := .cells #[.int .u64 a1_0, .int .u64 a1_1] 49 (0, 0)) (by (with_reducible repeat (first | refine blk_drewN ?_ _ | refine blk_drew ?_ | refine blk_alloc ?_ _)); exact BK194.out)) (below_size (by repeat (first | (with_reducible first | exact HB.out | apply below_alloc | apply pw_below_drewN | apply below_drew1 | refine below_set ?_ GE193.out | refine below_set ?_ GE194.out | refine below_set ?_ GE202.out) | exact HB.out))))
               have n2_ := Aside0.mk (blk_below (g := gb193) (o := .cells #[.int .u64 a0_0, .int .i64 a0_1, .int .i64 a0_2, .int .i64 a0_3, .slice A0_4 l0_4.length c0_4, .int .u64 a0_5, .bool a0_6] 44 (0, 0)) (by (with_reducible repeat (first | refine blk_drewN ?_ _ | refine blk_drew ?_ | refine blk_alloc ?_ _)); exact BK193.out) hb)
               have n3_ := Aside0.mk (blk_below (g := gb194) (o := .cells #[.int .u64 a1_0, .int .u64 a1_1] 49 (0, 0)) (by (with_reducible repeat (first | refine blk_drewN ?_ _ | refine blk_drew ?_ | refine blk_alloc ?_ _)); exact BK194.out) hb)
               have n4_ := Aside0.mk (blk_below (g := gb202) (o := .cells #[.int .u64 t199, .int .i64 t200, .int .i64 t201] 29 (0, 0)) (by (with_reducible repeat (first | refine blk_drewN ?_ _ | refine blk_drew ?_ | refine blk_alloc ?_ _)); exact BK202.out) hb)
               have n5_ := Aside0.mk (Kd.C_below (by repeat (first | (with_reducible exact HR206.out) | (with_reducible refine Kd.C_alloc ?_ _) | (with_reducible refine Kd.C_drewN ?_ _) | (with_reducible refine Kd.C_drew ?_) | exact HR206.out)) hb)
               have n6_ := Aside0.mk (below_step (by repeat (first | (with_reducible first | exact HB.out | apply below_alloc | apply pw_below_drewN | apply below_drew1 | refine below_set ?_ GE193.out | refine below_set ?_ GE194.out | refine below_set ?_ GE202.out) | exact HB.out)) hb)
               clear HO_5
               clear BK193
               clear BK194
               clear BK202
               clear HR206
               clear HB
               have HO_5 := n0_
               have HO219 := n1_
               have BK193 := n2_
               have BK194 := n3_
               have BK202 := n4_
               have HR206 := n5_
               have HB := n6_
               clear n0_ n1_ n2_ n3_ n4_ n5_ n6_
               clear hb ho86
               refine hK.out _ _ ⟨(blk_cell BK193.out 0).trans rfl, (blk_cell BK193.out 1).trans rfl, (blk_cell BK193.out 2).trans rfl, (blk_cell BK193.out 3).trans rfl, (blk_cell BK193.out 4).trans rfl, (blk_cell BK193.out 5).trans rfl, (blk_cell BK193.out 6).trans rfl, (blk_cell BK194.out 0).trans rfl, (blk_cell BK194.out 1).trans rfl⟩ (fun hHeld => ?_)
               clear hK K
               refine norm_ (a' := ?_) ?_ ?_
               rotate_left
               ·show Act.put _ (some 58) _ = _
                simp only [Act.put, Sa, Sb, Sc, i64_w, i32_w]
                rfl
               refine one_ (i := 2) (N := some 56) #[T,T,T,T,T,F,F] rfl rfl (by kernel_rfl) (by decide) (fun K hK => ?_)
               refine goes_ Try.func22 (by kernel_rfl) rfl #[.slice A0_4 l0_4.length c0_4] (by rfl) rfl rfl (by (try simp only [List.map_toArray, List.map_cons, List.map_nil]); first | done | rfl | (simp only [List.length_drop, List.length_take]; rfl)) ?_
               with_reducible refine (croftlaw11_turned.calls k1 _ _ l0_4 t214 _ ?side1 ?side2 A55.out).mono ?_
               (case side1 => repeat (first | exact (Kd.C_below HR0_4.out HB.out) | (with_reducible refine Kd.C_alloc ?_ _) | (with_reducible refine Kd.C_drewN ?_ _) | (with_reducible refine Kd.C_drew ?_)))
               (case side2 => exact HC0_4.out)
               rintro e w87 ⟨v215, rfl, ho0, hb⟩
               refine ⟨_, rfl, ?_⟩
               have n0_ := Aside0.mk (Kd.R_below (by (with_reducible repeat (first | apply Kd.R_alloc | apply Kd.R_drewN | apply Kd.R_drew)); exact HO_5.out) hb)
               have n1_ := Aside0.mk (Kd.R_elder' (by (with_reducible repeat (first | apply Kd.R_alloc | apply Kd.R_drewN | apply Kd.R_drew)); exact HO219.out) (Kd.R_base ho0) hb)
               have n2_ := Aside0.mk (Kd.R_lower (Kd.R_newB (Kd.R_new' ho0 (Kd.R_lt (by (with_reducible repeat (first | apply Kd.R_alloc | apply Kd.R_drewN | apply Kd.R_drew)); exact HO219.out))) (g := gb194) (o := .cells #[.int .u64 a1_0, .int .u64 a1_1] 49 (0, 0)) (by (with_reducible repeat (first | refine blk_drewN ?_ _ | refine blk_drew ?_ | refine blk_alloc ?_ _)); exact BK194.out)) (below_size (by repeat (first | (with_reducible first | exact HB.out | apply below_alloc | apply pw_below_drewN | apply below_drew1 | refine below_set ?_ GE193.out | refine below_set ?_ GE194.out | refine below_set ?_ GE202.out) | exact HB.out))))
               have n3_ := Aside0.mk (blk_below (g := gb193) (o := .cells #[.int .u64 a0_0, .int .i64 a0_1, .int .i64 a0_2, .int .i64 a0_3, .slice A0_4 l0_4.length c0_4, .int .u64 a0_5, .bool a0_6] 44 (0, 0)) (by (with_reducible repeat (first | refine blk_drewN ?_ _ | refine blk_drew ?_ | refine blk_alloc ?_ _)); exact BK193.out) hb)
               have n4_ := Aside0.mk (blk_below (g := gb194) (o := .cells #[.int .u64 a1_0, .int .u64 a1_1] 49 (0, 0)) (by (with_reducible repeat (first | refine blk_drewN ?_ _ | refine blk_drew ?_ | refine blk_alloc ?_ _)); exact BK194.out) hb)
               have n5_ := Aside0.mk (blk_below (g := gb202) (o := .cells #[.int .u64 t199, .int .i64 t200, .int .i64 t201] 29 (0, 0)) (by (with_reducible repeat (first | refine blk_drewN ?_ _ | refine blk_drew ?_ | refine blk_alloc ?_ _)); exact BK202.out) hb)
               have n6_ := Aside0.mk (Kd.C_below (by repeat (first | (with_reducible exact HR206.out) | (with_reducible refine Kd.C_alloc ?_ _) | (with_reducible refine Kd.C_drewN ?_ _) | (with_reducible refine Kd.C_drew ?_) | exact HR206.out)) hb)
               have n7_ := Aside0.mk (below_step (by repeat (first | (with_reducible first | exact HB.out | apply below_alloc | apply pw_below_drewN | apply below_drew1 | refine below_set ?_ GE193.out | refine below_set ?_ GE194.out | refine below_set ?_ GE202.out) | exact HB.out)) hb)
               clear HO_5
               clear HO219
               clear BK193
               clear BK194
               clear BK202
               clear HR206
               clear HB
               have HO_5 := n0_
               have HO219 := n1_
               have HO216 := n2_
               have BK193 := n3_
               have BK194 := n4_
               have BK202 := n5_
               have HR206 := n6_
               have HB := n7_
               clear n0_ n1_ n2_ n3_ n4_ n5_ n6_ n7_
               (try clear hb)
               (try clear hb2)
               (try clear hk)
               (try clear hi)
               (try clear ho0)
               refine hK.out _ _ ⟨(blk_cell BK193.out 0).trans rfl, (blk_cell BK193.out 1).trans rfl, (blk_cell BK193.out 2).trans rfl, (blk_cell BK193.out 3).trans rfl, (blk_cell BK193.out 4).trans rfl, (blk_cell BK193.out 5).trans rfl, (blk_cell BK193.out 6).trans rfl, (blk_cell BK194.out 0).trans rfl, (blk_cell BK194.out 1).trans rfl⟩ (fun hHeld => ?_)
               clear hK K
               refine norm_ (a' := ?_) ?_ ?_
               rotate_left
               ·show Act.put _ (some 56) _ = _
                simp only [Act.put, Sa, Sb, Sc, i64_w, i32_w]
                rfl
               exact norm_ (by simp only [putAll, Act.put, Sa, Sb, Sc]) (hCont (v215, v218) _ ⟨hHeld, (by (with_reducible repeat (first | apply Kd.R_alloc | apply Kd.R_drewN | apply Kd.R_drew)); exact Kd.R_mono HO216.out (fun _ hk => ⟨hk.1.2, hk.2⟩)), (by (with_reducible repeat (first | apply Kd.R_alloc | apply Kd.R_drewN | apply Kd.R_drew)); exact Kd.R_mono HO219.out (fun _ hk => ⟨hk.2, hk.1.2⟩)), (by (with_reducible repeat (first | apply Kd.R_alloc | apply Kd.R_drewN | apply Kd.R_drew)); exact HO_5.out), (by (with_reducible repeat (first | refine blk_drewN ?_ _ | refine blk_drew ?_ | refine blk_alloc ?_ _)); exact BK193.out), (by (with_reducible repeat (first | refine blk_drewN ?_ _ | refine blk_drew ?_ | refine blk_alloc ?_ _)); exact BK194.out), (by (with_reducible repeat (first | refine blk_drewN ?_ _ | refine blk_drew ?_ | refine blk_alloc ?_ _)); exact BK202.out), (by repeat (first | (with_reducible first | exact HB.out | apply below_alloc | apply pw_below_drewN | apply below_drew1 | refine below_set ?_ GE193.out | refine below_set ?_ GE194.out | refine below_set ?_ GE202.out) | exact HB.out))⟩)
             rintro ⟨v215, v218⟩ w88 ⟨hS_, h0_, h1_, h2_, h3_, h4_, h5_, h6_⟩
             have n0_ : Aside0 (Kd.R k49 49 w88 w.heap.size (fun k_ => some k_ ≠ (v218 : Value).ownBlock ∧ k_ ≠ gb194) v215 t214) := ⟨h0_⟩
             have n1_ : Aside0 (Kd.R k49 49 w88 w.heap.size (fun k_ => some k_ ≠ (v215 : Value).ownBlock ∧ k_ ≠ gb194) v218 y217) := ⟨h1_⟩
             have n2_ : Aside0 (Kd.R k55 55 w88 w.heap.size (fun _ => True) (.slice Ao26 t196.length co26) t196) := ⟨h2_⟩
             have n3_ : Aside0 (w88.heap[gb193]? = some (.cells #[.int .u64 a0_0, .int .i64 a0_1, .int .i64 a0_2, .int .i64 a0_3, .slice A0_4 l0_4.length c0_4, .int .u64 a0_5, .bool a0_6] 44 (0, 0))) := ⟨h3_⟩
             have n4_ : Aside0 (w88.heap[gb194]? = some (.cells #[.int .u64 a1_0, .int .u64 a1_1] 49 (0, 0))) := ⟨h4_⟩
             have n5_ : Aside0 (w88.heap[gb202]? = some (.cells #[.int .u64 t199, .int .i64 t200, .int .i64 t201] 29 (0, 0))) := ⟨h5_⟩
             have n6_ : Aside0 (Below w.heap.size w w88) := ⟨h6_⟩
             clear HO_5
             clear BK193
             clear BK194
             clear BK202
             clear HR206
             clear HB
             clear h0_ h1_ h2_ h3_ h4_ h5_ h6_
             have HO216 := n0_
             have HO219 := n1_
             have HO_5 := n2_
             have BK193 := n3_
             have BK194 := n4_
             have BK202 := n5_
             have HB := n6_
             clear n0_ n1_ n2_ n3_ n4_ n5_ n6_
             have hHeld : w88.cell? ⟨gb193, 0, none⟩ = some (.int .u64 a0_0) ∧ w88.cell? ⟨gb193, 1, none⟩ = some (.int .i64 a0_1) ∧ w88.cell? ⟨gb193, 2, none⟩ = some (.int .i64 a0_2) ∧ w88.cell? ⟨gb193, 3, none⟩ = some (.int .i64 a0_3) ∧ w88.cell? ⟨gb193, 4, none⟩ = some (.slice A0_4 l0_4.length c0_4) ∧ w88.cell? ⟨gb193, 5, none⟩ = some (.int .u64 a0_5) ∧ w88.cell? ⟨gb193, 6, none⟩ = some (.bool a0_6) ∧ w88.cell? ⟨gb194, 0, none⟩ = some (.int .u64 a1_0) ∧ w88.cell? ⟨gb194, 1, none⟩ = some (.int .u64 a1_1) := hS_
             obtain ⟨Ao90, co90, eo90⟩ := Kd.R_slice HO219.out
             (first | subst eo90 | (injection eo90 with f1_ f2_ f3_; have f4_ := f1_.symm; have f5_ := f3_.symm; clear f1_ f2_ f3_; subst f4_; subst f5_))
             refine norm_ (a' := ?_) ?_ ?_
             rotate_left
             ·simp only [putAll, Act.put, Sa, Sb, Sc]
              rfl
             refine one_ (i := 5) (N := some 59) #[T,T,T,T,T,T,F] rfl rfl (by kernel_rfl) (by decide) (fun K hK => ?_)
             refine Kd.R_append_rows_step k49 (w0 := w) w.heap.size (by rfl) (.tmp 56) (.tmp 58) 25 49 (.agg #[(.int .u64 0), (.int .u64 0)]) 16 rfl Try.underlying25 info49 rfl (by decide) (by omega) v215 t214 y217 _ _ _ (fun k_ => some k_ ≠ (.slice Ao90 y217.length co90 : Value).ownBlock ∧ k_ ≠ gb194) (fun _ => False) rfl rfl ?aO ?aR (fun _ _ h => h) (fun _ h => h.elim) ?aF ?aB ?aS ?aL ?_
             (case aR => repeat (first | exact (Kd.R_reads' HO219.out).2.2 | (with_reducible refine Kd.C_alloc ?_ _) | (with_reducible refine Kd.C_drewN ?_ _) | (with_reducible refine Kd.C_drew ?_)))
             (case aB => exact (by repeat (first | (with_reducible first | exact HB.out | apply below_alloc | apply pw_below_drewN | apply below_drew1 | refine below_set ?_ GE193.out | refine below_set ?_ GE194.out | refine below_set ?_ GE202.out) | exact HB.out)))
             (case aF => exact (fun k_ hk => ⟨Kd.fresh' (Kd.R_lt (by (with_reducible repeat (first | apply Kd.R_alloc | apply Kd.R_drewN | apply Kd.R_drew)); exact HO219.out)) k_ hk, Kd.freshB (g := gb194) (o := .cells #[.int .u64 a1_0, .int .u64 a1_1] 49 (0, 0)) (by (with_reducible repeat (first | refine blk_drewN ?_ _ | refine blk_drew ?_ | refine blk_alloc ?_ _)); exact BK194.out) k_ hk⟩))
             (case aO => exact (by (with_reducible repeat (first | apply Kd.R_alloc | apply Kd.R_drewN | apply Kd.R_drew)); exact HO216.out))
             (case aS => exact (below_size (by repeat (first | (with_reducible first | exact HB.out | apply below_alloc | apply pw_below_drewN | apply below_drew1 | refine below_set ?_ GE193.out | refine below_set ?_ GE194.out | refine below_set ?_ GE202.out) | exact HB.out))))
             (case aL => have := LMc56.out; omega)
             intro v221 w89 ho hb hg hat
             rw [← Ny220.out] at ho
             have n0_ := Aside0.mk (Kd.R_over' (by (with_reducible repeat (first | apply Kd.R_alloc | apply Kd.R_drewN | apply Kd.R_drew)); exact HO_5.out) (Kd.R_typed (by (with_reducible repeat (first | apply Kd.R_alloc | apply Kd.R_drewN | apply Kd.R_drew)); exact HO216.out)) (by decide) hg)
             have n1_ := Aside0.mk (blk_grown (g := gb193) (o := .cells #[.int .u64 a0_0, .int .i64 a0_1, .int .i64 a0_2, .int .i64 a0_3, .slice A0_4 l0_4.length c0_4, .int .u64 a0_5, .bool a0_6] 44 (0, 0)) (by (with_reducible repeat (first | refine blk_drewN ?_ _ | refine blk_drew ?_ | refine blk_alloc ?_ _)); exact BK193.out) hg (Kd.R_ne HO216.out BK193.out (by decide)))
             have n2_ := Aside0.mk (blk_grown (g := gb194) (o := .cells #[.int .u64 a1_0, .int .u64 a1_1] 49 (0, 0)) (by (with_reducible repeat (first | refine blk_drewN ?_ _ | refine blk_drew ?_ | refine blk_alloc ?_ _)); exact BK194.out) hg (Kd.R_away HO216.out (fun _ hk => hk.2)))
             have n3_ := Aside0.mk (blk_grown (g := gb202) (o := .cells #[.int .u64 t199, .int .i64 t200, .int .i64 t201] 29 (0, 0)) (by (with_reducible repeat (first | refine blk_drewN ?_ _ | refine blk_drew ?_ | refine blk_alloc ?_ _)); exact BK202.out) hg (Kd.R_ne HO216.out BK202.out (by decide)))
             have n4_ := Aside0.mk (Kd.R_after (ok := (fun k_ => k_ ≠ gb194)) (by (with_reducible repeat (first | apply Kd.R_alloc | apply Kd.R_drewN | apply Kd.R_drew)); exact Kd.R_mono HO219.out (fun _ hk => ⟨hk.2, hk.1⟩)) hg hat)
             have n5_ := Aside0.mk (hb)
             have n6_ := Aside0.mk (ho)
             clear HO_5
             clear BK193
             clear BK194
             clear BK202
             clear HO219
             clear HB
             clear HO216
             have HO_5 := n0_
             have BK193 := n1_
             have BK194 := n2_
             have BK202 := n3_
             have HO219 := n4_
             have HB := n5_
             have HO222 := n6_
             clear n0_ n1_ n2_ n3_ n4_ n5_ n6_
             clear ho hb hg hat
             refine hK.out _ _ ⟨(blk_cell BK193.out 0).trans rfl, (blk_cell BK193.out 1).trans rfl, (blk_cell BK193.out 2).trans rfl, (blk_cell BK193.out 3).trans rfl, (blk_cell BK193.out 4).trans rfl, (blk_cell BK193.out 5).trans rfl, (blk_cell BK193.out 6).trans rfl, (blk_cell BK194.out 0).trans rfl, (blk_cell BK194.out 1).trans rfl⟩ (fun hHeld => ?_)
             clear hK K
             refine norm_ (a' := ?_) ?_ ?_
             rotate_left
             ·show Act.put _ (some 59) _ = _
              simp only [Act.put, Sa, Sb, Sc, i64_w, i32_w]
              rfl
             refine pure_ (i := 6) (N := some 8) (v := ?_) (a' := ?_) #[T,T,T,T,T,T,T] rfl rfl (by kernel_rfl) (fun _ _ _ h => h) (Or.inl ⟨by rfl, ?_⟩) ?_ ?_
             rotate_left
             ·intro w'
              go_simp
              with_reducible rfl
             rotate_left
             ·simp only [Act.put, Sa, Sb, Sc, i64_w, i32_w]
              rfl
             refine done_ (by kernel_rfl) ?_
             obtain ⟨Ao91, co91, eo91⟩ := Kd.R_slice HO222.out
             subst eo91
             try go_wp2_with (first | ((with_reducible refine gate_callee (f := 13) rfl ?_); refine goesL_ (some 61) rfl rfl Try.func13 (by kernel_rfl) rfl #[.slice Ao91 y220.length co91] rfl (by (try simp only [List.map_toArray, List.map_cons, List.map_nil]); first | done | rfl | (simp only [List.length_drop, List.length_take]; rfl)) ?_; (with_reducible refine (croftlaw11_blocks.calls k1 _ _ y220 t223 _ ?side1 ?side2 A57.out).mono ?_); (case side1 => repeat (first | exact (Kd.R_reads' HO222.out).2.2 | (with_reducible refine Kd.C_alloc ?_ _) | (with_reducible refine Kd.C_drewN ?_ _) | (with_reducible refine Kd.C_drew ?_))); (case side2 => exact (Kd.R_reads' HO222.out).2.1); rintro e w92 ⟨v224, rfl, ho0, hb⟩; refine ⟨_, rfl, ?_⟩; have n0_ := Aside0.mk (Kd.R_elder' (by (with_reducible repeat (first | apply Kd.R_alloc | apply Kd.R_drewN | apply Kd.R_drew)); exact HO_5.out) (Kd.R_base ho0) hb); have n1_ := Aside0.mk (Kd.R_below (by (with_reducible repeat (first | apply Kd.R_alloc | apply Kd.R_drewN | apply Kd.R_drew)); exact HO219.out) hb); have n2_ := Aside0.mk (Kd.R_below (by (with_reducible repeat (first | apply Kd.R_alloc | apply Kd.R_drewN | apply Kd.R_drew)); exact HO222.out) hb); have n3_ := Aside0.mk (Kd.R_lower (Kd.R_new' ho0 (Kd.R_lt (by (with_reducible repeat (first | apply Kd.R_alloc | apply Kd.R_drewN | apply Kd.R_drew)); exact HO_5.out))) (below_size (by repeat (first | (with_reducible first | exact HB.out | apply below_alloc | apply pw_below_drewN | apply below_drew1 | refine below_set ?_ GE193.out | refine below_set ?_ GE194.out | refine below_set ?_ GE202.out) | exact HB.out)))); have n4_ := Aside0.mk (blk_below (g := gb193) (o := .cells #[.int .u64 a0_0, .int .i64 a0_1, .int .i64 a0_2, .int .i64 a0_3, .slice A0_4 l0_4.length c0_4, .int .u64 a0_5, .bool a0_6] 44 (0, 0)) (by (with_reducible repeat (first | refine blk_drewN ?_ _ | refine blk_drew ?_ | refine blk_alloc ?_ _)); exact BK193.out) hb); have n5_ := Aside0.mk (blk_below (g := gb194) (o := .cells #[.int .u64 a1_0, .int .u64 a1_1] 49 (0, 0)) (by (with_reducible repeat (first | refine blk_drewN ?_ _ | refine blk_drew ?_ | refine blk_alloc ?_ _)); exact BK194.out) hb); have n6_ := Aside0.mk (blk_below (g := gb202) (o := .cells #[.int .u64 t199, .int .i64 t200, .int .i64 t201] 29 (0, 0)) (by (with_reducible repeat (first | refine blk_drewN ?_ _ | refine blk_drew ?_ | refine blk_alloc ?_ _)); exact BK202.out) hb); have n7_ := Aside0.mk (below_step (by repeat (first | (with_reducible first | exact HB.out | apply below_alloc | apply pw_below_drewN | apply below_drew1 | refine below_set ?_ GE193.out | refine below_set ?_ GE194.out | refine below_set ?_ GE202.out) | exact HB.out)) hb); clear HO_5; clear HO219; clear HO222; clear BK193; clear BK194; clear BK202; clear HB; have HO_5 := n0_; have HO219 := n1_; have HO222 := n2_; have HO225 := n3_; have BK193 := n4_; have BK194 := n5_; have BK202 := n6_; have HB := n7_; clear n0_ n1_ n2_ n3_ n4_ n5_ n6_ n7_; (try clear hb); (try clear hb2); (try clear hk); (try clear hi); (try clear ho0); have hcz93_0 : w92.cell? ⟨gb193, 0, none⟩ = some (.int .u64 a0_0) := (blk_cell BK193.out 0).trans rfl; have hcz93_1 : w92.cell? ⟨gb193, 1, none⟩ = some (.int .i64 a0_1) := (blk_cell BK193.out 1).trans rfl; have hcz93_2 : w92.cell? ⟨gb193, 2, none⟩ = some (.int .i64 a0_2) := (blk_cell BK193.out 2).trans rfl; have hcz93_3 : w92.cell? ⟨gb193, 3, none⟩ = some (.int .i64 a0_3) := (blk_cell BK193.out 3).trans rfl; have hcz93_4 : w92.cell? ⟨gb193, 4, none⟩ = some (.slice A0_4 l0_4.length c0_4) := (blk_cell BK193.out 4).trans rfl; have hcz93_5 : w92.cell? ⟨gb193, 5, none⟩ = some (.int .u64 a0_5) := (blk_cell BK193.out 5).trans rfl; have hcz93_6 : w92.cell? ⟨gb193, 6, none⟩ = some (.bool a0_6) := (blk_cell BK193.out 6).trans rfl; have hfz93_0 := blk_frozen BK193.out 0; have hfz93_1 := blk_frozen BK193.out 1; have hfz93_2 := blk_frozen BK193.out 2; have hfz93_3 := blk_frozen BK193.out 3; have hfz93_4 := blk_frozen BK193.out 4; have hfz93_5 := blk_frozen BK193.out 5; have hfz93_6 := blk_frozen BK193.out 6) | ((with_reducible refine gate_callee (f := 16) rfl ?_); refine goesL_ (some 67) rfl rfl Try.func16 (by kernel_rfl) rfl #[.agg #[.int .u64 a0_0, .int .i64 a0_1, .int .i64 a0_2], .int .i64 a0_3, .slice Ao91 y220.length co91] rfl (by (try simp only [List.map_toArray, List.map_cons, List.map_nil]); first | done | rfl | (simp only [List.length_drop, List.length_take]; rfl)) ?_; (with_reducible refine (croftref11_Sound.calls k1 a0_0 a0_1 a0_2 a0_3 _ _ y220 t226 _ ?side1 ?side2 A58.out).mono ?_); (case side1 => repeat (first | exact (Kd.R_reads' HO222.out).2.2 | (with_reducible refine Kd.C_alloc ?_ _) | (with_reducible refine Kd.C_drewN ?_ _) | (with_reducible refine Kd.C_drew ?_))); (case side2 => exact (Kd.R_reads' HO222.out).2.1); rintro e w94 ⟨rfl, hb⟩; refine ⟨_, rfl, ?_⟩; have n0_ := Aside0.mk (Kd.R_below (by (with_reducible repeat (first | apply Kd.R_alloc | apply Kd.R_drewN | apply Kd.R_drew)); exact HO_5.out) hb); have n1_ := Aside0.mk (Kd.R_below (by (with_reducible repeat (first | apply Kd.R_alloc | apply Kd.R_drewN | apply Kd.R_drew)); exact HO219.out) hb); have n2_ := Aside0.mk (Kd.R_below (by (with_reducible repeat (first | apply Kd.R_alloc | apply Kd.R_drewN | apply Kd.R_drew)); exact HO222.out) hb); have n3_ := Aside0.mk (Kd.R_below (by (with_reducible repeat (first | apply Kd.R_alloc | apply Kd.R_drewN | apply Kd.R_drew)); exact HO225.out) hb); have n4_ := Aside0.mk (blk_below (g := gb193) (o := .cells #[.int .u64 a0_0, .int .i64 a0_1, .int .i64 a0_2, .int .i64 a0_3, .slice A0_4 l0_4.length c0_4, .int .u64 a0_5, .bool a0_6] 44 (0, 0)) (by (with_reducible repeat (first | refine blk_drewN ?_ _ | refine blk_drew ?_ | refine blk_alloc ?_ _)); exact BK193.out) hb); have n5_ := Aside0.mk (blk_below (g := gb194) (o := .cells #[.int .u64 a1_0, .int .u64 a1_1] 49 (0, 0)) (by (with_reducible repeat (first | refine blk_drewN ?_ _ | refine blk_drew ?_ | refine blk_alloc ?_ _)); exact BK194.out) hb); have n6_ := Aside0.mk (blk_below (g := gb202) (o := .cells #[.int .u64 t199, .int .i64 t200, .int .i64 t201] 29 (0, 0)) (by (with_reducible repeat (first | refine blk_drewN ?_ _ | refine blk_drew ?_ | refine blk_alloc ?_ _)); exact BK202.out) hb); have n7_ := Aside0.mk (below_step (by repeat (first | (with_reducible first | exact HB.out | apply below_alloc | apply pw_below_drewN | apply below_drew1 | refine below_set ?_ GE193.out | refine below_set ?_ GE194.out | refine below_set ?_ GE202.out) | exact HB.out)) hb); clear HO_5; clear HO219; clear HO222; clear HO225; clear BK193; clear BK194; clear BK202; clear HB; have HO_5 := n0_; have HO219 := n1_; have HO222 := n2_; have HO225 := n3_; have BK193 := n4_; have BK194 := n5_; have BK202 := n6_; have HB := n7_; clear n0_ n1_ n2_ n3_ n4_ n5_ n6_ n7_; (try clear hb); (try clear hb2); (try clear hk); (try clear hi); have hcz95_0 : w94.cell? ⟨gb193, 0, none⟩ = some (.int .u64 a0_0) := (blk_cell BK193.out 0).trans rfl; have hcz95_1 : w94.cell? ⟨gb193, 1, none⟩ = some (.int .i64 a0_1) := (blk_cell BK193.out 1).trans rfl; have hcz95_2 : w94.cell? ⟨gb193, 2, none⟩ = some (.int .i64 a0_2) := (blk_cell BK193.out 2).trans rfl; have hcz95_3 : w94.cell? ⟨gb193, 3, none⟩ = some (.int .i64 a0_3) := (blk_cell BK193.out 3).trans rfl; have hcz95_4 : w94.cell? ⟨gb193, 4, none⟩ = some (.slice A0_4 l0_4.length c0_4) := (blk_cell BK193.out 4).trans rfl; have hcz95_5 : w94.cell? ⟨gb193, 5, none⟩ = some (.int .u64 a0_5) := (blk_cell BK193.out 5).trans rfl; have hcz95_6 : w94.cell? ⟨gb193, 6, none⟩ = some (.bool a0_6) := (blk_cell BK193.out 6).trans rfl; have hfz95_0 := blk_frozen BK193.out 0; have hfz95_1 := blk_frozen BK193.out 1; have hfz95_2 := blk_frozen BK193.out 2; have hfz95_3 := blk_frozen BK193.out 3; have hfz95_4 := blk_frozen BK193.out 4; have hfz95_5 := blk_frozen BK193.out 5; have hfz95_6 := blk_frozen BK193.out 6))
             have n0_ := Aside0.mk (Kd.R_drew HO_5.out)
             have n1_ := Aside0.mk (Kd.R_drew HO219.out)
             have n2_ := Aside0.mk (Kd.R_drew HO222.out)
             have n3_ := Aside0.mk (Kd.R_drew HO225.out)
             have n4_ := Aside0.mk (blk_drew BK193.out)
             have n5_ := Aside0.mk (blk_drew BK194.out)
             have n6_ := Aside0.mk (blk_drew BK202.out)
             have n7_ := Aside0.mk (below_drew1 HB.out)
             clear HO_5
             clear HO219
             clear HO222
             clear HO225
             clear BK193
             clear BK194
             clear BK202
             clear HB
             have HO_5 := n0_
             have HO219 := n1_
             have HO222 := n2_
             have HO225 := n3_
             have BK193 := n4_
             have BK194 := n5_
             have BK202 := n6_
             have HB := n7_
             clear n0_ n1_ n2_ n3_ n4_ n5_ n6_ n7_
             obtain ⟨Ao98, co98, eo98⟩ := Kd.R_slice HO225.out
             (first | subst eo98 | (injection eo98 with f1_ f2_ f3_; have f4_ := f1_.symm; have f5_ := f3_.symm; clear f1_ f2_ f3_; subst f4_; subst f5_))
             have q97 : ((y220.length : Int) : Int) ≤ ((t223.length : Int) : Int) := of_decide_eq_true (by first | (with_reducible assumption) | assumption)
             obtain ⟨i097, hi097, _, hsz97, _⟩ := info_parts info55
             have hroom97 : t223.length ≤ co98 := (Kd.R_reads' HO225.out).2.1
             have hC97 : Kd.C k55 _ Ao98 t223.length t223 := (Kd.R_reads' HO225.out).2.2
             have hcut97 := cut_to (P := Try.prog) 26 55 .i64 Try.underlying26 hi097 Ao98 t223.length co98 (y220.length : Int) (of_decide_eq_true (by first | (with_reducible assumption) | assumption)) q97 hroom97
             have hr97 := Kd.C_take (m := ((y220.length : Int) : Int).toNat) hC97 (by omega)
             have hy97 : y227.length = ((y220.length : Int) : Int).toNat := (by rw [Ny227.out, List.length_take]; omega)
             rw [← Ny227.out] at hr97
             rw [← hy97] at hcut97
             have HR230 := Aside0.mk hr97
             have HC230 := Aside0.mk (show y227.length ≤ co98 from by omega)
             clear hr97 hC97 hroom97 hi097 hsz97
             have KY97 := Aside0.mk hy97
             clear hy97
             have KL97 := Aside0.mk (show ((y220.length : Int) : Int).toNat ≤ t223.length from by omega)
             replace q97 := eq_true q97
             refine start_ (n := 11) (S := fun w' => w'.cell? ⟨gb202, 0, none⟩ = some (.int .u64 t199) ∧ w'.cell? ⟨gb202, 1, none⟩ = some (.int .i64 t200) ∧ w'.cell? ⟨gb202, 2, none⟩ = some (.int .i64 t201) ∧ w'.cell? ⟨gb193, 0, none⟩ = some (.int .u64 a0_0) ∧ w'.cell? ⟨gb193, 1, none⟩ = some (.int .i64 a0_1) ∧ w'.cell? ⟨gb193, 2, none⟩ = some (.int .i64 a0_2) ∧ w'.cell? ⟨gb193, 3, none⟩ = some (.int .i64 a0_3) ∧ w'.cell? ⟨gb193, 4, none⟩ = some (.slice A0_4 l0_4.length c0_4) ∧ w'.cell? ⟨gb193, 5, none⟩ = some (.int .u64 a0_5) ∧ w'.cell? ⟨gb193, 6, none⟩ = some (.bool a0_6)) (ds := []) #[F,F,F,F,F,F,F,F,F,F,F] (by kernel_rfl) rfl rfl ⟨(blk_cell BK202.out 0).trans rfl, (blk_cell BK202.out 1).trans rfl, (blk_cell BK202.out 2).trans rfl, (blk_cell BK193.out 0).trans rfl, (blk_cell BK193.out 1).trans rfl, (blk_cell BK193.out 2).trans rfl, (blk_cell BK193.out 3).trans rfl, (blk_cell BK193.out 4).trans rfl, (blk_cell BK193.out 5).trans rfl, (blk_cell BK193.out 6).trans rfl⟩ (fun hHeld => ?_); refine with_tabW croftlaw11_OracleRises.tab16 croftlaw11_OracleRises.bits16 (fun HT_ HW_ => ?_)
             generalize w94.drew = w96 at HO_5 HO219 HO222 HO225 BK193 BK194 BK202 HB HR230 hHeld ⊢
             refine pure_ (i := 1) (N := some 75) (v := ?_) (a' := ?_) #[F,T,F,F,F,F,F,F,F,F,F] rfl rfl (any_of HT_.out (by kernel_rfl)) (fun _ _ _ h => h) (Or.inl ⟨by rfl, ?_⟩) ?_ ?_
             rotate_left
             ·intro w'
              go_simp
              with_reducible rfl
             rotate_left
             ·simp only [Act.put, Sa, Sb, Sc, i64_w, i32_w]
              rfl
             refine pure_ (i := 3) (N := some 77) (v := ?_) (a' := ?_) #[F,T,F,T,F,F,F,F,F,F,F] rfl rfl (any_of HT_.out (by kernel_rfl)) (fun _ _ _ h => h) (Or.inl ⟨by rfl, ?_⟩) ?_ ?_
             rotate_left
             ·intro w'
              go_simp
              with_reducible rfl
             rotate_left
             ·simp only [Act.put, Sa, Sb, Sc, i64_w, i32_w]
              rfl
             refine pure_ (i := 4) (N := some 78) (v := ?_) (a' := ?_) #[F,T,F,T,T,F,F,F,F,F,F] rfl rfl (any_of HT_.out (by kernel_rfl)) (fun _ _ _ h => h) (Or.inl ⟨by rfl, ?_⟩) ?_ ?_
             rotate_left
             ·intro w'
              go_simp
              with_reducible rfl
             rotate_left
             ·simp only [Act.put, Sa, Sb, Sc, i64_w, i32_w]
              rfl
             refine pure_ (i := 5) (N := some 79) (v := ?_) (a' := ?_) #[F,T,F,T,T,T,F,F,F,F,F] rfl rfl (any_of HT_.out (by kernel_rfl)) (fun _ _ _ h => h) (Or.inl ⟨by rfl, ?_⟩) ?_ ?_
             rotate_left
             ·intro w'
              go_simp
              with_reducible rfl
             rotate_left
             ·simp only [Act.put, Sa, Sb, Sc, i64_w, i32_w]
              rfl
             refine pure_ (i := 6) (N := some 80) (v := ?_) (a' := ?_) #[F,T,F,T,T,T,T,F,F,F,F] rfl rfl (any_of HT_.out (by kernel_rfl)) (fun _ _ _ h => h) (Or.inl ⟨by rfl, ?_⟩) ?_ ?_
             rotate_left
             ·intro w'
              go_simp
              with_reducible rfl
             rotate_left
             ·simp only [Act.put, Sa, Sb, Sc, i64_w, i32_w]
              rfl
             refine pure_ (i := 7) (N := some 81) (v := ?_) (a' := ?_) #[F,T,F,T,T,T,T,T,F,F,F] rfl rfl (any_of HT_.out (by kernel_rfl)) (fun _ _ _ h => h) (Or.inl ⟨by rfl, ?_⟩) ?_ ?_
             rotate_left
             ·intro w'
              go_simp
              with_reducible rfl
             rotate_left
             ·simp only [Act.put, Sa, Sb, Sc, i64_w, i32_w]
              rfl
             refine take_ (i := 0) (N := some 74) (v := ?_) (a' := ?_) #[T,T,F,T,T,T,T,T,F,F,F] rfl rfl (take_ofW HT_.out HW_.out (by kernel_rfl)) (fun _ _ _ h => h) (Or.inl ⟨by rfl, ?_⟩) hHeld ?_ ?_
             rotate_left
             ·rintro w' ⟨s0, s1, s2, s3, s4, s5, s6, s7, s8, s9⟩
              go_simp
              with_reducible rfl
             rotate_left
             ·simp only [Act.put, Sa, Sb, Sc, i64_w, i32_w]
              rfl
             refine take_ (i := 2) (N := some 76) (v := ?_) (a' := ?_) #[T,T,T,T,T,T,T,T,F,F,F] rfl rfl (take_ofW HT_.out HW_.out (by kernel_rfl)) (fun _ _ _ h => h) (Or.inl ⟨by rfl, ?_⟩) hHeld ?_ ?_
             rotate_left
             ·rintro w' ⟨s0, s1, s2, s3, s4, s5, s6, s7, s8, s9⟩
              go_simp
              with_reducible rfl
             rotate_left
             ·simp only [Act.put, Sa, Sb, Sc, i64_w, i32_w]
              rfl
             refine take_ (i := 8) (N := some 82) (v := ?_) (a' := ?_) #[T,T,T,T,T,T,T,T,T,F,F] rfl rfl (take_ofW HT_.out HW_.out (by kernel_rfl)) (fun _ _ _ h => h) (Or.inl ⟨by rfl, ?_⟩) hHeld ?_ ?_
             rotate_left
             ·rintro w' ⟨s0, s1, s2, s3, s4, s5, s6, s7, s8, s9⟩
              go_simp
              with_reducible rfl
             rotate_left
             ·simp only [Act.put, Sa, Sb, Sc, i64_w, i32_w]
              rfl
             refine one_ (i := 9) (N := some 83) #[T,T,T,T,T,T,T,T,T,T,F] rfl rfl (one_of HT_.out (by kernel_rfl)) (by decide) (fun K hK => ?_)
             refine goes_ Try.func23 (by kernel_rfl) rfl #[.agg #[.int .u64 t199, .int .i64 t200, .int .i64 t201], .int .i64 a0_3, .slice Ao98 y227.length co98, .int .u64 a0_5] (by rfl) rfl rfl (by (try simp only [List.map_toArray, List.map_cons, List.map_nil]); first | done | rfl | (simp only [List.length_drop, List.length_take]; rfl)) ?_
             with_reducible refine (oracle_NoFit.calls t199 t200 t201 a0_3 _ _ y227 a0_5 t231 _ ?side1 ?side2 A79.out).mono ?_
             (case side1 => repeat (first | exact (by repeat (first | (with_reducible exact HR230.out) | (with_reducible refine Kd.C_alloc ?_ _) | (with_reducible refine Kd.C_drewN ?_ _) | (with_reducible refine Kd.C_drew ?_) | exact HR230.out)) | (with_reducible refine Kd.C_alloc ?_ _) | (with_reducible refine Kd.C_drewN ?_ _) | (with_reducible refine Kd.C_drew ?_)))
             (case side2 => exact HC230.out)
             rintro e w99 ⟨rfl, hb⟩
             refine ⟨_, rfl, ?_⟩
             have n0_ := Aside0.mk (Kd.R_below (by (with_reducible repeat (first | apply Kd.R_alloc | apply Kd.R_drewN | apply Kd.R_drew)); exact HO_5.out) hb)
             have n1_ := Aside0.mk (Kd.R_below (by (with_reducible repeat (first | apply Kd.R_alloc | apply Kd.R_drewN | apply Kd.R_drew)); exact HO219.out) hb)
             have n2_ := Aside0.mk (Kd.R_below (by (with_reducible repeat (first | apply Kd.R_alloc | apply Kd.R_drewN | apply Kd.R_drew)); exact HO222.out) hb)
             have n3_ := Aside0.mk (Kd.R_below (by (with_reducible repeat (first | apply Kd.R_alloc | apply Kd.R_drewN | apply Kd.R_drew)); exact HO225.out) hb)
             have n4_ := Aside0.mk (blk_below (g := gb193) (o := .cells #[.int .u64 a0_0, .int .i64 a0_1, .int .i64 a0_2, .int .i64 a0_3, .slice A0_4 l0_4.length c0_4, .int .u64 a0_5, .bool a0_6] 44 (0, 0)) (by (with_reducible repeat (first | refine blk_drewN ?_ _ | refine blk_drew ?_ | refine blk_alloc ?_ _)); exact BK193.out) hb)
             have n5_ := Aside0.mk (blk_below (g := gb194) (o := .cells #[.int .u64 a1_0, .int .u64 a1_1] 49 (0, 0)) (by (with_reducible repeat (first | refine blk_drewN ?_ _ | refine blk_drew ?_ | refine blk_alloc ?_ _)); exact BK194.out) hb)
             have n6_ := Aside0.mk (blk_below (g := gb202) (o := .cells #[.int .u64 t199, .int .i64 t200, .int .i64 t201] 29 (0, 0)) (by (with_reducible repeat (first | refine blk_drewN ?_ _ | refine blk_drew ?_ | refine blk_alloc ?_ _)); exact BK202.out) hb)
             have n7_ := Aside0.mk (Kd.C_below (by repeat (first | (with_reducible exact HR230.out) | (with_reducible refine Kd.C_alloc ?_ _) | (with_reducible refine Kd.C_drewN ?_ _) | (with_reducible refine Kd.C_drew ?_) | exact HR230.out)) hb)
             have n8_ := Aside0.mk (below_step (by repeat (first | (with_reducible first | exact HB.out | apply below_alloc | apply pw_below_drewN | apply below_drew1 | refine below_set ?_ GE193.out | refine below_set ?_ GE194.out | refine below_set ?_ GE202.out) | exact HB.out)) hb)
             clear HO_5
             clear HO219
             clear HO222
             clear HO225
             clear BK193
             clear BK194
             clear BK202
             clear HR230
             clear HB
             have HO_5 := n0_
             have HO219 := n1_
             have HO222 := n2_
             have HO225 := n3_
             have BK193 := n4_
             have BK194 := n5_
             have BK202 := n6_
             have HR230 := n7_
             have HB := n8_
             clear n0_ n1_ n2_ n3_ n4_ n5_ n6_ n7_ n8_
             (try clear hb)
             (try clear hb2)
             (try clear hk)
             (try clear hi)
             refine hK.out _ _ ⟨(blk_cell BK202.out 0).trans rfl, (blk_cell BK202.out 1).trans rfl, (blk_cell BK202.out 2).trans rfl, (blk_cell BK193.out 0).trans rfl, (blk_cell BK193.out 1).trans rfl, (blk_cell BK193.out 2).trans rfl, (blk_cell BK193.out 3).trans rfl, (blk_cell BK193.out 4).trans rfl, (blk_cell BK193.out 5).trans rfl, (blk_cell BK193.out 6).trans rfl⟩ (fun hHeld => ?_)
             clear hK K
             refine norm_ (a' := ?_) ?_ ?_
             rotate_left
             ·show Act.put _ (some 83) _ = _
              simp only [Act.put, Sa, Sb, Sc, i64_w, i32_w]
              rfl
             refine pure_ (i := 10) (N := some 4) (v := ?_) (a' := ?_) #[T,T,T,T,T,T,T,T,T,T,T] rfl rfl (any_of HT_.out (by kernel_rfl)) (fun _ _ _ h => h) (Or.inl ⟨by rfl, ?_⟩) ?_ ?_
             rotate_left
             ·intro w'
              go_simp
              with_reducible rfl
             rotate_left
             ·simp only [Act.put, Sa, Sb, Sc, i64_w, i32_w]
              rfl
             refine done_ (done_of HT_.out (by kernel_rfl)) ?_
             try go_wp2
             go_ret
             exact ⟨by first | rfl | (simp [errW_none, errW_some] <;> rfl) | (simp [*, errW_none, errW_some] <;> rfl), by repeat (first | (with_reducible first | exact HB.out | apply below_alloc | apply pw_below_drewN | apply below_drew1 | refine below_set ?_ GE193.out | refine below_set ?_ GE194.out | refine below_set ?_ GE202.out) | exact HB.out)⟩
            ·rw [if_neg c78] at H
             exact absurd H (by simp)
           ·rw [if_neg c77] at H
            exact absurd H (by simp)
         ·rw [if_neg c59] at H
          have c59b0 : (t226 == (-1)) = false := beq_eq_false_iff_ne.mpr c59
          have c59b1 : (t226 != (-1)) = true := bne_iff_ne.mpr c59
          obtain rfl := Option.some.inj H
          have hnb100 := NB193_194.out
          have hnc100 := NB194_193.out
          have hnb101 := NB193_202.out
          have hnc101 := NB202_193.out
          have hcz102_0 : wr.cell? ⟨gb193, 0, none⟩ = some (.int .u64 a0_0) := (blk_cell BK193.out 0).trans rfl
          have hcz102_1 : wr.cell? ⟨gb193, 1, none⟩ = some (.int .i64 a0_1) := (blk_cell BK193.out 1).trans rfl
          have hcz102_2 : wr.cell? ⟨gb193, 2, none⟩ = some (.int .i64 a0_2) := (blk_cell BK193.out 2).trans rfl
          have hcz102_3 : wr.cell? ⟨gb193, 3, none⟩ = some (.int .i64 a0_3) := (blk_cell BK193.out 3).trans rfl
          have hcz102_4 : wr.cell? ⟨gb193, 4, none⟩ = some (.slice A0_4 l0_4.length c0_4) := (blk_cell BK193.out 4).trans rfl
          have hcz102_5 : wr.cell? ⟨gb193, 5, none⟩ = some (.int .u64 a0_5) := (blk_cell BK193.out 5).trans rfl
          have hcz102_6 : wr.cell? ⟨gb193, 6, none⟩ = some (.bool a0_6) := (blk_cell BK193.out 6).trans rfl
          have hfz102_0 := blk_frozen BK193.out 0
          have hfz102_1 := blk_frozen BK193.out 1
          have hfz102_2 := blk_frozen BK193.out 2
          have hfz102_3 := blk_frozen BK193.out 3
          have hfz102_4 := blk_frozen BK193.out 4
          have hfz102_5 := blk_frozen BK193.out 5
          have hfz102_6 := blk_frozen BK193.out 6
          try go_wp2_with (first | ((with_reducible refine gate_callee (f := 24) rfl ?_); refine goesL_ (some 35) rfl rfl Try.func24 (by kernel_rfl) rfl #[.agg #[.int .u64 a0_0, .int .i64 a0_1, .int .i64 a0_2]] rfl (by (try simp only [List.map_toArray, List.map_cons, List.map_nil]); first | done | rfl | (simp only [List.length_drop, List.length_take]; rfl)) ?_; (with_reducible refine (croftref11_R.calls a0_0 a0_1 a0_2 t208 _ A29.out).mono ?_); rintro e w103 ⟨rfl, hb⟩; refine ⟨_, rfl, ?_⟩; have n0_ := Aside0.mk (Kd.R_below (by (with_reducible repeat (first | apply Kd.R_alloc | apply Kd.R_drewN | apply Kd.R_drew)); exact HO_5.out) hb); have n1_ := Aside0.mk (blk_below (g := gb193) (o := .cells #[.int .u64 a0_0, .int .i64 a0_1, .int .i64 a0_2, .int .i64 a0_3, .slice A0_4 l0_4.length c0_4, .int .u64 a0_5, .bool a0_6] 44 (0, 0)) (by (with_reducible repeat (first | refine blk_drewN ?_ _ | refine blk_drew ?_ | refine blk_alloc ?_ _)); exact BK193.out) hb); have n2_ := Aside0.mk (blk_below (g := gb194) (o := .cells #[.int .u64 a1_0, .int .u64 a1_1] 49 (0, 0)) (by (with_reducible repeat (first | refine blk_drewN ?_ _ | refine blk_drew ?_ | refine blk_alloc ?_ _)); exact BK194.out) hb); have n3_ := Aside0.mk (blk_below (g := gb202) (o := .cells #[.int .u64 t199, .int .i64 t200, .int .i64 t201] 29 (0, 0)) (by (with_reducible repeat (first | refine blk_drewN ?_ _ | refine blk_drew ?_ | refine blk_alloc ?_ _)); exact BK202.out) hb); have n4_ := Aside0.mk (Kd.C_below (by repeat (first | (with_reducible exact HR206.out) | (with_reducible refine Kd.C_alloc ?_ _) | (with_reducible refine Kd.C_drewN ?_ _) | (with_reducible refine Kd.C_drew ?_) | exact HR206.out)) hb); have n5_ := Aside0.mk (below_step (by repeat (first | (with_reducible first | exact HB.out | apply below_alloc | apply pw_below_drewN | apply below_drew1 | refine below_set ?_ GE193.out | refine below_set ?_ GE194.out | refine below_set ?_ GE202.out) | exact HB.out)) hb); clear HO_5; clear BK193; clear BK194; clear BK202; clear HR206; clear HB; have HO_5 := n0_; have BK193 := n1_; have BK194 := n2_; have BK202 := n3_; have HR206 := n4_; have HB := n5_; clear n0_ n1_ n2_ n3_ n4_ n5_; (try clear hb); (try clear hb2); (try clear hk); (try clear hi)))
          have n0_ := Aside0.mk (Kd.R_drew HO_5.out)
          have n1_ := Aside0.mk (blk_drew BK193.out)
          have n2_ := Aside0.mk (blk_drew BK194.out)
          have n3_ := Aside0.mk (blk_drew BK202.out)
          have n4_ := Aside0.mk (Kd.C_drew HR206.out)
          have n5_ := Aside0.mk (below_drew1 HB.out)
          clear HO_5
          clear BK193
          clear BK194
          clear BK202
          clear HR206
          clear HB
          have HO_5 := n0_
          have BK193 := n1_
          have BK194 := n2_
          have BK202 := n3_
          have HR206 := n4_
          have HB := n5_
          clear n0_ n1_ n2_ n3_ n4_ n5_
          refine start_ (n := 7) (S := fun w' => w'.cell? ⟨gb193, 0, none⟩ = some (.int .u64 a0_0) ∧ w'.cell? ⟨gb193, 1, none⟩ = some (.int .i64 a0_1) ∧ w'.cell? ⟨gb193, 2, none⟩ = some (.int .i64 a0_2) ∧ w'.cell? ⟨gb193, 3, none⟩ = some (.int .i64 a0_3) ∧ w'.cell? ⟨gb193, 4, none⟩ = some (.slice A0_4 l0_4.length c0_4) ∧ w'.cell? ⟨gb193, 5, none⟩ = some (.int .u64 a0_5) ∧ w'.cell? ⟨gb193, 6, none⟩ = some (.bool a0_6) ∧ w'.cell? ⟨gb194, 0, none⟩ = some (.int .u64 a1_0) ∧ w'.cell? ⟨gb194, 1, none⟩ = some (.int .u64 a1_1)) (ds := []) #[F,F,F,F,F,F,F] (by kernel_rfl) rfl rfl ⟨(blk_cell BK193.out 0).trans rfl, (blk_cell BK193.out 1).trans rfl, (blk_cell BK193.out 2).trans rfl, (blk_cell BK193.out 3).trans rfl, (blk_cell BK193.out 4).trans rfl, (blk_cell BK193.out 5).trans rfl, (blk_cell BK193.out 6).trans rfl, (blk_cell BK194.out 0).trans rfl, (blk_cell BK194.out 1).trans rfl⟩ (fun hHeld => ?_)
          generalize w103.drew = w104 at HO_5 BK193 BK194 BK202 HR206 HB hHeld ⊢
          refine pure_ (i := 0) (N := some 54) (v := ?_) (a' := ?_) #[T,F,F,F,F,F,F] rfl rfl (by kernel_rfl) (fun _ _ _ h => h) (Or.inl ⟨by rfl, ?_⟩) ?_ ?_
          rotate_left
          ·intro w'
           go_simp
           with_reducible rfl
          rotate_left
          ·simp only [Act.put, Sa, Sb, Sc, i64_w, i32_w]
           rfl
          refine take_ (i := 1) (N := some 55) (v := ?_) (a' := ?_) #[T,T,F,F,F,F,F] rfl rfl (by kernel_rfl) (fun _ _ _ h => h) (Or.inl ⟨by rfl, ?_⟩) hHeld ?_ ?_
          rotate_left
          ·rintro w' ⟨s0, s1, s2, s3, s4, s5, s6, s7, s8⟩
           go_simp
           with_reducible rfl
          rotate_left
          ·simp only [Act.put, Sa, Sb, Sc, i64_w, i32_w]
           rfl
          refine take_ (i := 3) (N := some 57) (v := ?_) (a' := ?_) #[T,T,F,T,F,F,F] rfl rfl (by kernel_rfl) (fun _ _ _ h => h) (Or.inl ⟨by rfl, ?_⟩) hHeld ?_ ?_
          rotate_left
          ·rintro w' ⟨s0, s1, s2, s3, s4, s5, s6, s7, s8⟩
           go_simp
           with_reducible rfl
          rotate_left
          ·simp only [Act.put, Sa, Sb, Sc, i64_w, i32_w]
           rfl
          refine join_ (σ := Value × Value) 2 #[T,T,T,T,T,F,F] (fun s_ => [(56, s_.1), (58, s_.2)]) (fun s_ w' => (w'.cell? ⟨gb193, 0, none⟩ = some (.int .u64 a0_0) ∧ w'.cell? ⟨gb193, 1, none⟩ = some (.int .i64 a0_1) ∧ w'.cell? ⟨gb193, 2, none⟩ = some (.int .i64 a0_2) ∧ w'.cell? ⟨gb193, 3, none⟩ = some (.int .i64 a0_3) ∧ w'.cell? ⟨gb193, 4, none⟩ = some (.slice A0_4 l0_4.length c0_4) ∧ w'.cell? ⟨gb193, 5, none⟩ = some (.int .u64 a0_5) ∧ w'.cell? ⟨gb193, 6, none⟩ = some (.bool a0_6) ∧ w'.cell? ⟨gb194, 0, none⟩ = some (.int .u64 a1_0) ∧ w'.cell? ⟨gb194, 1, none⟩ = some (.int .u64 a1_1)) ∧ (Kd.R k49 49 w' w.heap.size (fun k_ => some k_ ≠ (s_.2 : Value).ownBlock ∧ k_ ≠ gb194) s_.1 t214) ∧ (Kd.R k49 49 w' w.heap.size (fun k_ => some k_ ≠ (s_.1 : Value).ownBlock ∧ k_ ≠ gb194) s_.2 y217) ∧ (Kd.R k55 55 w' w.heap.size (fun _ => True) (.slice Ao26 t196.length co26) t196) ∧ (w'.heap[gb193]? = some (.cells #[.int .u64 a0_0, .int .i64 a0_1, .int .i64 a0_2, .int .i64 a0_3, .slice A0_4 l0_4.length c0_4, .int .u64 a0_5, .bool a0_6] 44 (0, 0))) ∧ (w'.heap[gb194]? = some (.cells #[.int .u64 a1_0, .int .u64 a1_1] 49 (0, 0))) ∧ (w'.heap[gb202]? = some (.cells #[.int .u64 t199, .int .i64 t200, .int .i64 t201] 29 (0, 0))) ∧ (Below w.heap.size w w')) ?_ ?_
          rotate_left
          ·intro hCont
           refine two_ (i := 2) (j := 4) (Ni := some 56) (Nj := some 58) #[T,T,T,T,F,F,F] #[T,T,F,T,T,F,F] rfl rfl rfl rfl (by kernel_rfl) (by decide) (by decide) (fun K hK => ?_) (fun K hK => ?_)
           ·skip
            refine goes_ Try.func22 (by kernel_rfl) rfl #[.slice A0_4 l0_4.length c0_4] (by rfl) rfl rfl (by (try simp only [List.map_toArray, List.map_cons, List.map_nil]); first | done | rfl | (simp only [List.length_drop, List.length_take]; rfl)) ?_
            with_reducible refine (croftlaw11_turned.calls k1 _ _ l0_4 t214 _ ?side1 ?side2 A55.out).mono ?_
            (case side1 => repeat (first | exact (Kd.C_below HR0_4.out HB.out) | (with_reducible refine Kd.C_alloc ?_ _) | (with_reducible refine Kd.C_drewN ?_ _) | (with_reducible refine Kd.C_drew ?_)))
            (case side2 => exact HC0_4.out)
            rintro e w105 ⟨v215, rfl, ho0, hb⟩
            refine ⟨_, rfl, ?_⟩
            have n0_ := Aside0.mk (Kd.R_below (by (with_reducible repeat (first | apply Kd.R_alloc | apply Kd.R_drewN | apply Kd.R_drew)); exact HO_5.out) hb)
            have n1_ := Aside0.mk (Kd.R_lower (Kd.R_newB ho0 (g := gb194) (o := .cells #[.int .u64 a1_0, .int .u64 a1_1] 49 (0, 0)) (by (with_reducible repeat (first | refine blk_drewN ?_ _ | refine blk_drew ?_ | refine blk_alloc ?_ _)); exact BK194.out)) (below_size (by repeat (first | (with_reducible first | exact HB.out | apply below_alloc | apply pw_below_drewN | apply below_drew1 | refine below_set ?_ GE193.out | refine below_set ?_ GE194.out | refine below_set ?_ GE202.out) | exact HB.out))))
            have n2_ := Aside0.mk (blk_below (g := gb193) (o := .cells #[.int .u64 a0_0, .int .i64 a0_1, .int .i64 a0_2, .int .i64 a0_3, .slice A0_4 l0_4.length c0_4, .int .u64 a0_5, .bool a0_6] 44 (0, 0)) (by (with_reducible repeat (first | refine blk_drewN ?_ _ | refine blk_drew ?_ | refine blk_alloc ?_ _)); exact BK193.out) hb)
            have n3_ := Aside0.mk (blk_below (g := gb194) (o := .cells #[.int .u64 a1_0, .int .u64 a1_1] 49 (0, 0)) (by (with_reducible repeat (first | refine blk_drewN ?_ _ | refine blk_drew ?_ | refine blk_alloc ?_ _)); exact BK194.out) hb)
            have n4_ := Aside0.mk (blk_below (g := gb202) (o := .cells #[.int .u64 t199, .int .i64 t200, .int .i64 t201] 29 (0, 0)) (by (with_reducible repeat (first | refine blk_drewN ?_ _ | refine blk_drew ?_ | refine blk_alloc ?_ _)); exact BK202.out) hb)
            have n5_ := Aside0.mk (Kd.C_below (by repeat (first | (with_reducible exact HR206.out) | (with_reducible refine Kd.C_alloc ?_ _) | (with_reducible refine Kd.C_drewN ?_ _) | (with_reducible refine Kd.C_drew ?_) | exact HR206.out)) hb)
            have n6_ := Aside0.mk (below_step (by repeat (first | (with_reducible first | exact HB.out | apply below_alloc | apply pw_below_drewN | apply below_drew1 | refine below_set ?_ GE193.out | refine below_set ?_ GE194.out | refine below_set ?_ GE202.out) | exact HB.out)) hb)
            clear HO_5
            clear BK193
            clear BK194
            clear BK202
            clear HR206
            clear HB
            have HO_5 := n0_
            have HO216 := n1_
            have BK193 := n2_
            have BK194 := n3_
            have BK202 := n4_
            have HR206 := n5_
            have HB := n6_
            clear n0_ n1_ n2_ n3_ n4_ n5_ n6_
            (try clear hb)
            (try clear hb2)
            (try clear hk)
            (try clear hi)
            (try clear ho0)
            refine hK.out _ _ ⟨(blk_cell BK193.out 0).trans rfl, (blk_cell BK193.out 1).trans rfl, (blk_cell BK193.out 2).trans rfl, (blk_cell BK193.out 3).trans rfl, (blk_cell BK193.out 4).trans rfl, (blk_cell BK193.out 5).trans rfl, (blk_cell BK193.out 6).trans rfl, (blk_cell BK194.out 0).trans rfl, (blk_cell BK194.out 1).trans rfl⟩ (fun hHeld => ?_)
            clear hK K
            refine norm_ (a' := ?_) ?_ ?_
            rotate_left
            ·show Act.put _ (some 56) _ = _
             simp only [Act.put, Sa, Sb, Sc, i64_w, i32_w]
             rfl
            refine one_ (i := 4) (N := some 58) #[T,T,T,T,T,F,F] rfl rfl (by kernel_rfl) (by decide) (fun K hK => ?_)
            refine Kd.R_lit_step k49 _ 49 ?hg (N := 58) ?hd (xs := ([(⟨a1_0, a1_1⟩ : S49)] : List (S49))) (inner := [.int .u64 a1_0, .int .u64 a1_1]) (ok := fun _ => True) (okp := fun _ => True) ?hr ?hp (fun _ hk => hk) trivial (Below.refl _ _) (Nat.le_refl _) (by simp) ?_; (case hd => rfl); (case hg => rfl); (case hr => first | (go_simp; done) | (go_simp; rfl)); (case hp => exact (Reps.c2 (show Kd.M k49 _ _ _ (⟨a1_0, a1_1⟩ : S49) [.int .u64 a1_0, .int .u64 a1_1] from (k49_mkM _ _ _ (⟨a1_0, a1_1⟩ : S49) )) (Reps.none _ _)))
            intro v218 w106 ho107 hb hg_ hnew_
            clear hg_ hnew_
            (first | rw [← Ny217.out] at ho107 | (simp only [Int.reduceToNat] at ho107; rw [← Ny217.out] at ho107))
            have n0_ := Aside0.mk (Kd.R_below (by (with_reducible repeat (first | apply Kd.R_alloc | apply Kd.R_drewN | apply Kd.R_drew)); exact HO_5.out) hb)
            have n1_ := Aside0.mk (Kd.R_elder' (by (with_reducible repeat (first | apply Kd.R_alloc | apply Kd.R_drewN | apply Kd.R_drew)); exact HO216.out) (Kd.R_base ho107) hb)
            have n2_ := Aside0.mk (Kd.R_lower (Kd.R_newB (Kd.R_new' ho107 (Kd.R_lt (by (with_reducible repeat (first | apply Kd.R_alloc | apply Kd.R_drewN | apply Kd.R_drew)); exact HO216.out))) (g := gb194) (o := .cells #[.int .u64 a1_0, .int .u64 a1_1] 49 (0, 0)) (by (with_reducible repeat (first | refine blk_drewN ?_ _ | refine blk_drew ?_ | refine blk_alloc ?_ _)); exact BK194.out)) (below_size (by repeat (first | (with_reducible first | exact HB.out | apply below_alloc | apply pw_below_drewN | apply below_drew1 | refine below_set ?_ GE193.out | refine below_set ?_ GE194.out | refine below_set ?_ GE202.out) | exact HB.out))))
            have n3_ := Aside0.mk (blk_below (g := gb193) (o := .cells #[.int .u64 a0_0, .int .i64 a0_1, .int .i64 a0_2, .int .i64 a0_3, .slice A0_4 l0_4.length c0_4, .int .u64 a0_5, .bool a0_6] 44 (0, 0)) (by (with_reducible repeat (first | refine blk_drewN ?_ _ | refine blk_drew ?_ | refine blk_alloc ?_ _)); exact BK193.out) hb)
            have n4_ := Aside0.mk (blk_below (g := gb194) (o := .cells #[.int .u64 a1_0, .int .u64 a1_1] 49 (0, 0)) (by (with_reducible repeat (first | refine blk_drewN ?_ _ | refine blk_drew ?_ | refine blk_alloc ?_ _)); exact BK194.out) hb)
            have n5_ := Aside0.mk (blk_below (g := gb202) (o := .cells #[.int .u64 t199, .int .i64 t200, .int .i64 t201] 29 (0, 0)) (by (with_reducible repeat (first | refine blk_drewN ?_ _ | refine blk_drew ?_ | refine blk_alloc ?_ _)); exact BK202.out) hb)
            have n6_ := Aside0.mk (Kd.C_below (by repeat (first | (with_reducible exact HR206.out) | (with_reducible refine Kd.C_alloc ?_ _) | (with_reducible refine Kd.C_drewN ?_ _) | (with_reducible refine Kd.C_drew ?_) | exact HR206.out)) hb)
            have n7_ := Aside0.mk (below_step (by repeat (first | (with_reducible first | exact HB.out | apply below_alloc | apply pw_below_drewN | apply below_drew1 | refine below_set ?_ GE193.out | refine below_set ?_ GE194.out | refine below_set ?_ GE202.out) | exact HB.out)) hb)
            clear HO_5
            clear HO216
            clear BK193
            clear BK194
            clear BK202
            clear HR206
            clear HB
            have HO_5 := n0_
            have HO216 := n1_
            have HO219 := n2_
            have BK193 := n3_
            have BK194 := n4_
            have BK202 := n5_
            have HR206 := n6_
            have HB := n7_
            clear n0_ n1_ n2_ n3_ n4_ n5_ n6_ n7_
            clear hb ho107
            refine hK.out _ _ ⟨(blk_cell BK193.out 0).trans rfl, (blk_cell BK193.out 1).trans rfl, (blk_cell BK193.out 2).trans rfl, (blk_cell BK193.out 3).trans rfl, (blk_cell BK193.out 4).trans rfl, (blk_cell BK193.out 5).trans rfl, (blk_cell BK193.out 6).trans rfl, (blk_cell BK194.out 0).trans rfl, (blk_cell BK194.out 1).trans rfl⟩ (fun hHeld => ?_)
            clear hK K
            refine norm_ (a' := ?_) ?_ ?_
            rotate_left
            ·show Act.put _ (some 58) _ = _
             simp only [Act.put, Sa, Sb, Sc, i64_w, i32_w]
             rfl
            exact norm_ (by simp only [putAll, Act.put, Sa, Sb, Sc]) (hCont (v215, v218) _ ⟨hHeld, (by (with_reducible repeat (first | apply Kd.R_alloc | apply Kd.R_drewN | apply Kd.R_drew)); exact Kd.R_mono HO216.out (fun _ hk => ⟨hk.2, hk.1.2⟩)), (by (with_reducible repeat (first | apply Kd.R_alloc | apply Kd.R_drewN | apply Kd.R_drew)); exact Kd.R_mono HO219.out (fun _ hk => ⟨hk.1.2, hk.2⟩)), (by (with_reducible repeat (first | apply Kd.R_alloc | apply Kd.R_drewN | apply Kd.R_drew)); exact HO_5.out), (by (with_reducible repeat (first | refine blk_drewN ?_ _ | refine blk_drew ?_ | refine blk_alloc ?_ _)); exact BK193.out), (by (with_reducible repeat (first | refine blk_drewN ?_ _ | refine blk_drew ?_ | refine blk_alloc ?_ _)); exact BK194.out), (by (with_reducible repeat (first | refine blk_drewN ?_ _ | refine blk_drew ?_ | refine blk_alloc ?_ _)); exact BK202.out), (by repeat (first | (with_reducible first | exact HB.out | apply below_alloc | apply pw_below_drewN | apply below_drew1 | refine below_set ?_ GE193.out | refine below_set ?_ GE194.out | refine below_set ?_ GE202.out) | exact HB.out))⟩)
           ·skip
            refine Kd.R_lit_step k49 _ 49 ?hg (N := 58) ?hd (xs := ([(⟨a1_0, a1_1⟩ : S49)] : List (S49))) (inner := [.int .u64 a1_0, .int .u64 a1_1]) (ok := fun _ => True) (okp := fun _ => True) ?hr ?hp (fun _ hk => hk) trivial (Below.refl _ _) (Nat.le_refl _) (by simp) ?_; (case hd => rfl); (case hg => rfl); (case hr => first | (go_simp; done) | (go_simp; rfl)); (case hp => exact (Reps.c2 (show Kd.M k49 _ _ _ (⟨a1_0, a1_1⟩ : S49) [.int .u64 a1_0, .int .u64 a1_1] from (k49_mkM _ _ _ (⟨a1_0, a1_1⟩ : S49) )) (Reps.none _ _)))
            intro v218 w105 ho106 hb hg_ hnew_
            clear hg_ hnew_
            (first | rw [← Ny217.out] at ho106 | (simp only [Int.reduceToNat] at ho106; rw [← Ny217.out] at ho106))
            have n0_ := Aside0.mk (Kd.R_below (by (with_reducible repeat (first | apply Kd.R_alloc | apply Kd.R_drewN | apply Kd.R_drew)); exact HO_5.out) hb)
            have n1_ := Aside0.mk (Kd.R_lower (Kd.R_newB ho106 (g := gb194) (o := .cells #[.int .u64 a1_0, .int .u64 a1_1] 49 (0, 0)) (by (with_reducible repeat (first | refine blk_drewN ?_ _ | refine blk_drew ?_ | refine blk_alloc ?_ _)); exact BK194.out)) (below_size (by repeat (first | (with_reducible first | exact HB.out | apply below_alloc | apply pw_below_drewN | apply below_drew1 | refine below_set ?_ GE193.out | refine below_set ?_ GE194.out | refine below_set ?_ GE202.out) | exact HB.out))))
            have n2_ := Aside0.mk (blk_below (g := gb193) (o := .cells #[.int .u64 a0_0, .int .i64 a0_1, .int .i64 a0_2, .int .i64 a0_3, .slice A0_4 l0_4.length c0_4, .int .u64 a0_5, .bool a0_6] 44 (0, 0)) (by (with_reducible repeat (first | refine blk_drewN ?_ _ | refine blk_drew ?_ | refine blk_alloc ?_ _)); exact BK193.out) hb)
            have n3_ := Aside0.mk (blk_below (g := gb194) (o := .cells #[.int .u64 a1_0, .int .u64 a1_1] 49 (0, 0)) (by (with_reducible repeat (first | refine blk_drewN ?_ _ | refine blk_drew ?_ | refine blk_alloc ?_ _)); exact BK194.out) hb)
            have n4_ := Aside0.mk (blk_below (g := gb202) (o := .cells #[.int .u64 t199, .int .i64 t200, .int .i64 t201] 29 (0, 0)) (by (with_reducible repeat (first | refine blk_drewN ?_ _ | refine blk_drew ?_ | refine blk_alloc ?_ _)); exact BK202.out) hb)
            have n5_ := Aside0.mk (Kd.C_below (by repeat (first | (with_reducible exact HR206.out) | (with_reducible refine Kd.C_alloc ?_ _) | (with_reducible refine Kd.C_drewN ?_ _) | (with_reducible refine Kd.C_drew ?_) | exact HR206.out)) hb)
            have n6_ := Aside0.mk (below_step (by repeat (first | (with_reducible first | exact HB.out | apply below_alloc | apply pw_below_drewN | apply below_drew1 | refine below_set ?_ GE193.out | refine below_set ?_ GE194.out | refine below_set ?_ GE202.out) | exact HB.out)) hb)
            clear HO_5
            clear BK193
            clear BK194
            clear BK202
            clear HR206
            clear HB
            have HO_5 := n0_
            have HO219 := n1_
            have BK193 := n2_
            have BK194 := n3_
            have BK202 := n4_
            have HR206 := n5_
            have HB := n6_
            clear n0_ n1_ n2_ n3_ n4_ n5_ n6_
            clear hb ho106
            refine hK.out _ _ ⟨(blk_cell BK193.out 0).trans rfl, (blk_cell BK193.out 1).trans rfl, (blk_cell BK193.out 2).trans rfl, (blk_cell BK193.out 3).trans rfl, (blk_cell BK193.out 4).trans rfl, (blk_cell BK193.out 5).trans rfl, (blk_cell BK193.out 6).trans rfl, (blk_cell BK194.out 0).trans rfl, (blk_cell BK194.out 1).trans rfl⟩ (fun hHeld => ?_)
            clear hK K
            refine norm_ (a' := ?_) ?_ ?_
            rotate_left
            ·show Act.put _ (some 58) _ = _
             simp only [Act.put, Sa, Sb, Sc, i64_w, i32_w]
             rfl
            refine one_ (i := 2) (N := some 56) #[T,T,T,T,T,F,F] rfl rfl (by kernel_rfl) (by decide) (fun K hK => ?_)
            refine goes_ Try.func22 (by kernel_rfl) rfl #[.slice A0_4 l0_4.length c0_4] (by rfl) rfl rfl (by (try simp only [List.map_toArray, List.map_cons, List.map_nil]); first | done | rfl | (simp only [List.length_drop, List.length_take]; rfl)) ?_
            with_reducible refine (croftlaw11_turned.calls k1 _ _ l0_4 t214 _ ?side1 ?side2 A55.out).mono ?_
            (case side1 => repeat (first | exact (Kd.C_below HR0_4.out HB.out) | (with_reducible refine Kd.C_alloc ?_ _) | (with_reducible refine Kd.C_drewN ?_ _) | (with_reducible refine Kd.C_drew ?_)))
            (case side2 => exact HC0_4.out)
            rintro e w107 ⟨v215, rfl, ho0, hb⟩
            refine ⟨_, rfl, ?_⟩
            have n0_ := Aside0.mk (Kd.R_below (by (with_reducible repeat (first | apply Kd.R_alloc | apply Kd.R_drewN | apply Kd.R_drew)); exact HO_5.out) hb)
            have n1_ := Aside0.mk (Kd.R_elder' (by (with_reducible repeat (first | apply Kd.R_alloc | apply Kd.R_drewN | apply Kd.R_drew)); exact HO219.out) (Kd.R_base ho0) hb)
            have n2_ := Aside0.mk (Kd.R_lower (Kd.R_newB (Kd.R_new' ho0 (Kd.R_lt (by (with_reducible repeat (first | apply Kd.R_alloc | apply Kd.R_drewN | apply Kd.R_drew)); exact HO219.out))) (g := gb194) (o := .cells #[.int .u64 a1_0, .int .u64 a1_1] 49 (0, 0)) (by (with_reducible repeat (first | refine blk_drewN ?_ _ | refine blk_drew ?_ | refine blk_alloc ?_ _)); exact BK194.out)) (below_size (by repeat (first | (with_reducible first | exact HB.out | apply below_alloc | apply pw_below_drewN | apply below_drew1 | refine below_set ?_ GE193.out | refine below_set ?_ GE194.out | refine below_set ?_ GE202.out) | exact HB.out))))
            have n3_ := Aside0.mk (blk_below (g := gb193) (o := .cells #[.int .u64 a0_0, .int .i64 a0_1, .int .i64 a0_2, .int .i64 a0_3, .slice A0_4 l0_4.length c0_4, .int .u64 a0_5, .bool a0_6] 44 (0, 0)) (by (with_reducible repeat (first | refine blk_drewN ?_ _ | refine blk_drew ?_ | refine blk_alloc ?_ _)); exact BK193.out) hb)
            have n4_ := Aside0.mk (blk_below (g := gb194) (o := .cells #[.int .u64 a1_0, .int .u64 a1_1] 49 (0, 0)) (by (with_reducible repeat (first | refine blk_drewN ?_ _ | refine blk_drew ?_ | refine blk_alloc ?_ _)); exact BK194.out) hb)
            have n5_ := Aside0.mk (blk_below (g := gb202) (o := .cells #[.int .u64 t199, .int .i64 t200, .int .i64 t201] 29 (0, 0)) (by (with_reducible repeat (first | refine blk_drewN ?_ _ | refine blk_drew ?_ | refine blk_alloc ?_ _)); exact BK202.out) hb)
            have n6_ := Aside0.mk (Kd.C_below (by repeat (first | (with_reducible exact HR206.out) | (with_reducible refine Kd.C_alloc ?_ _) | (with_reducible refine Kd.C_drewN ?_ _) | (with_reducible refine Kd.C_drew ?_) | exact HR206.out)) hb)
            have n7_ := Aside0.mk (below_step (by repeat (first | (with_reducible first | exact HB.out | apply below_alloc | apply pw_below_drewN | apply below_drew1 | refine below_set ?_ GE193.out | refine below_set ?_ GE194.out | refine below_set ?_ GE202.out) | exact HB.out)) hb)
            clear HO_5
            clear HO219
            clear BK193
            clear BK194
            clear BK202
            clear HR206
            clear HB
            have HO_5 := n0_
            have HO219 := n1_
            have HO216 := n2_
            have BK193 := n3_
            have BK194 := n4_
            have BK202 := n5_
            have HR206 := n6_
            have HB := n7_
            clear n0_ n1_ n2_ n3_ n4_ n5_ n6_ n7_
            (try clear hb)
            (try clear hb2)
            (try clear hk)
            (try clear hi)
            (try clear ho0)
            refine hK.out _ _ ⟨(blk_cell BK193.out 0).trans rfl, (blk_cell BK193.out 1).trans rfl, (blk_cell BK193.out 2).trans rfl, (blk_cell BK193.out 3).trans rfl, (blk_cell BK193.out 4).trans rfl, (blk_cell BK193.out 5).trans rfl, (blk_cell BK193.out 6).trans rfl, (blk_cell BK194.out 0).trans rfl, (blk_cell BK194.out 1).trans rfl⟩ (fun hHeld => ?_)
            clear hK K
            refine norm_ (a' := ?_) ?_ ?_
            rotate_left
            ·show Act.put _ (some 56) _ = _
             simp only [Act.put, Sa, Sb, Sc, i64_w, i32_w]
             rfl
            exact norm_ (by simp only [putAll, Act.put, Sa, Sb, Sc]) (hCont (v215, v218) _ ⟨hHeld, (by (with_reducible repeat (first | apply Kd.R_alloc | apply Kd.R_drewN | apply Kd.R_drew)); exact Kd.R_mono HO216.out (fun _ hk => ⟨hk.1.2, hk.2⟩)), (by (with_reducible repeat (first | apply Kd.R_alloc | apply Kd.R_drewN | apply Kd.R_drew)); exact Kd.R_mono HO219.out (fun _ hk => ⟨hk.2, hk.1.2⟩)), (by (with_reducible repeat (first | apply Kd.R_alloc | apply Kd.R_drewN | apply Kd.R_drew)); exact HO_5.out), (by (with_reducible repeat (first | refine blk_drewN ?_ _ | refine blk_drew ?_ | refine blk_alloc ?_ _)); exact BK193.out), (by (with_reducible repeat (first | refine blk_drewN ?_ _ | refine blk_drew ?_ | refine blk_alloc ?_ _)); exact BK194.out), (by (with_reducible repeat (first | refine blk_drewN ?_ _ | refine blk_drew ?_ | refine blk_alloc ?_ _)); exact BK202.out), (by repeat (first | (with_reducible first | exact HB.out | apply below_alloc | apply pw_below_drewN | apply below_drew1 | refine below_set ?_ GE193.out | refine below_set ?_ GE194.out | refine below_set ?_ GE202.out) | exact HB.out))⟩)
          rintro ⟨v215, v218⟩ w108 ⟨hS_, h0_, h1_, h2_, h3_, h4_, h5_, h6_⟩
          have n0_ : Aside0 (Kd.R k49 49 w108 w.heap.size (fun k_ => some k_ ≠ (v218 : Value).ownBlock ∧ k_ ≠ gb194) v215 t214) := ⟨h0_⟩
          have n1_ : Aside0 (Kd.R k49 49 w108 w.heap.size (fun k_ => some k_ ≠ (v215 : Value).ownBlock ∧ k_ ≠ gb194) v218 y217) := ⟨h1_⟩
          have n2_ : Aside0 (Kd.R k55 55 w108 w.heap.size (fun _ => True) (.slice Ao26 t196.length co26) t196) := ⟨h2_⟩
          have n3_ : Aside0 (w108.heap[gb193]? = some (.cells #[.int .u64 a0_0, .int .i64 a0_1, .int .i64 a0_2, .int .i64 a0_3, .slice A0_4 l0_4.length c0_4, .int .u64 a0_5, .bool a0_6] 44 (0, 0))) := ⟨h3_⟩
          have n4_ : Aside0 (w108.heap[gb194]? = some (.cells #[.int .u64 a1_0, .int .u64 a1_1] 49 (0, 0))) := ⟨h4_⟩
          have n5_ : Aside0 (w108.heap[gb202]? = some (.cells #[.int .u64 t199, .int .i64 t200, .int .i64 t201] 29 (0, 0))) := ⟨h5_⟩
          have n6_ : Aside0 (Below w.heap.size w w108) := ⟨h6_⟩
          clear HO_5
          clear BK193
          clear BK194
          clear BK202
          clear HR206
          clear HB
          clear h0_ h1_ h2_ h3_ h4_ h5_ h6_
          have HO216 := n0_
          have HO219 := n1_
          have HO_5 := n2_
          have BK193 := n3_
          have BK194 := n4_
          have BK202 := n5_
          have HB := n6_
          clear n0_ n1_ n2_ n3_ n4_ n5_ n6_
          have hHeld : w108.cell? ⟨gb193, 0, none⟩ = some (.int .u64 a0_0) ∧ w108.cell? ⟨gb193, 1, none⟩ = some (.int .i64 a0_1) ∧ w108.cell? ⟨gb193, 2, none⟩ = some (.int .i64 a0_2) ∧ w108.cell? ⟨gb193, 3, none⟩ = some (.int .i64 a0_3) ∧ w108.cell? ⟨gb193, 4, none⟩ = some (.slice A0_4 l0_4.length c0_4) ∧ w108.cell? ⟨gb193, 5, none⟩ = some (.int .u64 a0_5) ∧ w108.cell? ⟨gb193, 6, none⟩ = some (.bool a0_6) ∧ w108.cell? ⟨gb194, 0, none⟩ = some (.int .u64 a1_0) ∧ w108.cell? ⟨gb194, 1, none⟩ = some (.int .u64 a1_1) := hS_
          obtain ⟨Ao110, co110, eo110⟩ := Kd.R_slice HO219.out
          (first | subst eo110 | (injection eo110 with f1_ f2_ f3_; have f4_ := f1_.symm; have f5_ := f3_.symm; clear f1_ f2_ f3_; subst f4_; subst f5_))
          refine norm_ (a' := ?_) ?_ ?_
          rotate_left
          ·simp only [putAll, Act.put, Sa, Sb, Sc]
           rfl
          refine one_ (i := 5) (N := some 59) #[T,T,T,T,T,T,F] rfl rfl (by kernel_rfl) (by decide) (fun K hK => ?_)
          refine Kd.R_append_rows_step k49 (w0 := w) w.heap.size (by rfl) (.tmp 56) (.tmp 58) 25 49 (.agg #[(.int .u64 0), (.int .u64 0)]) 16 rfl Try.underlying25 info49 rfl (by decide) (by omega) v215 t214 y217 _ _ _ (fun k_ => some k_ ≠ (.slice Ao110 y217.length co110 : Value).ownBlock ∧ k_ ≠ gb194) (fun _ => False) rfl rfl ?aO ?aR (fun _ _ h => h) (fun _ h => h.elim) ?aF ?aB ?aS ?aL ?_
          (case aR => repeat (first | exact (Kd.R_reads' HO219.out).2.2 | (with_reducible refine Kd.C_alloc ?_ _) | (with_reducible refine Kd.C_drewN ?_ _) | (with_reducible refine Kd.C_drew ?_)))
          (case aB => exact (by repeat (first | (with_reducible first | exact HB.out | apply below_alloc | apply pw_below_drewN | apply below_drew1 | refine below_set ?_ GE193.out | refine below_set ?_ GE194.out | refine below_set ?_ GE202.out) | exact HB.out)))
          (case aF => exact (fun k_ hk => ⟨Kd.fresh' (Kd.R_lt (by (with_reducible repeat (first | apply Kd.R_alloc | apply Kd.R_drewN | apply Kd.R_drew)); exact HO219.out)) k_ hk, Kd.freshB (g := gb194) (o := .cells #[.int .u64 a1_0, .int .u64 a1_1] 49 (0, 0)) (by (with_reducible repeat (first | refine blk_drewN ?_ _ | refine blk_drew ?_ | refine blk_alloc ?_ _)); exact BK194.out) k_ hk⟩))
          (case aO => exact (by (with_reducible repeat (first | apply Kd.R_alloc | apply Kd.R_drewN | apply Kd.R_drew)); exact HO216.out))
          (case aS => exact (below_size (by repeat (first | (with_reducible first | exact HB.out | apply below_alloc | apply pw_below_drewN | apply below_drew1 | refine below_set ?_ GE193.out | refine below_set ?_ GE194.out | refine below_set ?_ GE202.out) | exact HB.out))))
          (case aL => have := LMc56.out; omega)
          intro v221 w109 ho hb hg hat
          rw [← Ny220.out] at ho
          have n0_ := Aside0.mk (Kd.R_over' (by (with_reducible repeat (first | apply Kd.R_alloc | apply Kd.R_drewN | apply Kd.R_drew)); exact HO_5.out) (Kd.R_typed (by (with_reducible repeat (first | apply Kd.R_alloc | apply Kd.R_drewN | apply Kd.R_drew)); exact HO216.out)) (by decide) hg)
          have n1_ := Aside0.mk (blk_grown (g := gb193) (o := .cells #[.int .u64 a0_0, .int .i64 a0_1, .int .i64 a0_2, .int .i64 a0_3, .slice A0_4 l0_4.length c0_4, .int .u64 a0_5, .bool a0_6] 44 (0, 0)) (by (with_reducible repeat (first | refine blk_drewN ?_ _ | refine blk_drew ?_ | refine blk_alloc ?_ _)); exact BK193.out) hg (Kd.R_ne HO216.out BK193.out (by decide)))
          have n2_ := Aside0.mk (blk_grown (g := gb194) (o := .cells #[.int .u64 a1_0, .int .u64 a1_1] 49 (0, 0)) (by (with_reducible repeat (first | refine blk_drewN ?_ _ | refine blk_drew ?_ | refine blk_alloc ?_ _)); exact BK194.out) hg (Kd.R_away HO216.out (fun _ hk => hk.2)))
          have n3_ := Aside0.mk (blk_grown (g := gb202) (o := .cells #[.int .u64 t199, .int .i64 t200, .int .i64 t201] 29 (0, 0)) (by (with_reducible repeat (first | refine blk_drewN ?_ _ | refine blk_drew ?_ | refine blk_alloc ?_ _)); exact BK202.out) hg (Kd.R_ne HO216.out BK202.out (by decide)))
          have n4_ := Aside0.mk (Kd.R_after (ok := (fun k_ => k_ ≠ gb194)) (by (with_reducible repeat (first | apply Kd.R_alloc | apply Kd.R_drewN | apply Kd.R_drew)); exact Kd.R_mono HO219.out (fun _ hk => ⟨hk.2, hk.1⟩)) hg hat)
          have n5_ := Aside0.mk (hb)
          have n6_ := Aside0.mk (ho)
          clear HO_5
          clear BK193
          clear BK194
          clear BK202
          clear HO219
          clear HB
          clear HO216
          have HO_5 := n0_
          have BK193 := n1_
          have BK194 := n2_
          have BK202 := n3_
          have HO219 := n4_
          have HB := n5_
          have HO222 := n6_
          clear n0_ n1_ n2_ n3_ n4_ n5_ n6_
          clear ho hb hg hat
          refine hK.out _ _ ⟨(blk_cell BK193.out 0).trans rfl, (blk_cell BK193.out 1).trans rfl, (blk_cell BK193.out 2).trans rfl, (blk_cell BK193.out 3).trans rfl, (blk_cell BK193.out 4).trans rfl, (blk_cell BK193.out 5).trans rfl, (blk_cell BK193.out 6).trans rfl, (blk_cell BK194.out 0).trans rfl, (blk_cell BK194.out 1).trans rfl⟩ (fun hHeld => ?_)
          clear hK K
          refine norm_ (a' := ?_) ?_ ?_
          rotate_left
          ·show Act.put _ (some 59) _ = _
           simp only [Act.put, Sa, Sb, Sc, i64_w, i32_w]
           rfl
          refine pure_ (i := 6) (N := some 8) (v := ?_) (a' := ?_) #[T,T,T,T,T,T,T] rfl rfl (by kernel_rfl) (fun _ _ _ h => h) (Or.inl ⟨by rfl, ?_⟩) ?_ ?_
          rotate_left
          ·intro w'
           go_simp
           with_reducible rfl
          rotate_left
          ·simp only [Act.put, Sa, Sb, Sc, i64_w, i32_w]
           rfl
          refine done_ (by kernel_rfl) ?_
          obtain ⟨Ao111, co111, eo111⟩ := Kd.R_slice HO222.out
          subst eo111
          try go_wp2_with (first | ((with_reducible refine gate_callee (f := 13) rfl ?_); refine goesL_ (some 61) rfl rfl Try.func13 (by kernel_rfl) rfl #[.slice Ao111 y220.length co111] rfl (by (try simp only [List.map_toArray, List.map_cons, List.map_nil]); first | done | rfl | (simp only [List.length_drop, List.length_take]; rfl)) ?_; (with_reducible refine (croftlaw11_blocks.calls k1 _ _ y220 t223 _ ?side1 ?side2 A57.out).mono ?_); (case side1 => repeat (first | exact (Kd.R_reads' HO222.out).2.2 | (with_reducible refine Kd.C_alloc ?_ _) | (with_reducible refine Kd.C_drewN ?_ _) | (with_reducible refine Kd.C_drew ?_))); (case side2 => exact (Kd.R_reads' HO222.out).2.1); rintro e w112 ⟨v224, rfl, ho0, hb⟩; refine ⟨_, rfl, ?_⟩; have n0_ := Aside0.mk (Kd.R_elder' (by (with_reducible repeat (first | apply Kd.R_alloc | apply Kd.R_drewN | apply Kd.R_drew)); exact HO_5.out) (Kd.R_base ho0) hb); have n1_ := Aside0.mk (Kd.R_below (by (with_reducible repeat (first | apply Kd.R_alloc | apply Kd.R_drewN | apply Kd.R_drew)); exact HO219.out) hb); have n2_ := Aside0.mk (Kd.R_below (by (with_reducible repeat (first | apply Kd.R_alloc | apply Kd.R_drewN | apply Kd.R_drew)); exact HO222.out) hb); have n3_ := Aside0.mk (Kd.R_lower (Kd.R_new' ho0 (Kd.R_lt (by (with_reducible repeat (first | apply Kd.R_alloc | apply Kd.R_drewN | apply Kd.R_drew)); exact HO_5.out))) (below_size (by repeat (first | (with_reducible first | exact HB.out | apply below_alloc | apply pw_below_drewN | apply below_drew1 | refine below_set ?_ GE193.out | refine below_set ?_ GE194.out | refine below_set ?_ GE202.out) | exact HB.out)))); have n4_ := Aside0.mk (blk_below (g := gb193) (o := .cells #[.int .u64 a0_0, .int .i64 a0_1, .int .i64 a0_2, .int .i64 a0_3, .slice A0_4 l0_4.length c0_4, .int .u64 a0_5, .bool a0_6] 44 (0, 0)) (by (with_reducible repeat (first | refine blk_drewN ?_ _ | refine blk_drew ?_ | refine blk_alloc ?_ _)); exact BK193.out) hb); have n5_ := Aside0.mk (blk_below (g := gb194) (o := .cells #[.int .u64 a1_0, .int .u64 a1_1] 49 (0, 0)) (by (with_reducible repeat (first | refine blk_drewN ?_ _ | refine blk_drew ?_ | refine blk_alloc ?_ _)); exact BK194.out) hb); have n6_ := Aside0.mk (blk_below (g := gb202) (o := .cells #[.int .u64 t199, .int .i64 t200, .int .i64 t201] 29 (0, 0)) (by (with_reducible repeat (first | refine blk_drewN ?_ _ | refine blk_drew ?_ | refine blk_alloc ?_ _)); exact BK202.out) hb); have n7_ := Aside0.mk (below_step (by repeat (first | (with_reducible first | exact HB.out | apply below_alloc | apply pw_below_drewN | apply below_drew1 | refine below_set ?_ GE193.out | refine below_set ?_ GE194.out | refine below_set ?_ GE202.out) | exact HB.out)) hb); clear HO_5; clear HO219; clear HO222; clear BK193; clear BK194; clear BK202; clear HB; have HO_5 := n0_; have HO219 := n1_; have HO222 := n2_; have HO225 := n3_; have BK193 := n4_; have BK194 := n5_; have BK202 := n6_; have HB := n7_; clear n0_ n1_ n2_ n3_ n4_ n5_ n6_ n7_; (try clear hb); (try clear hb2); (try clear hk); (try clear hi); (try clear ho0); have hcz113_0 : w112.cell? ⟨gb193, 0, none⟩ = some (.int .u64 a0_0) := (blk_cell BK193.out 0).trans rfl; have hcz113_1 : w112.cell? ⟨gb193, 1, none⟩ = some (.int .i64 a0_1) := (blk_cell BK193.out 1).trans rfl; have hcz113_2 : w112.cell? ⟨gb193, 2, none⟩ = some (.int .i64 a0_2) := (blk_cell BK193.out 2).trans rfl; have hcz113_3 : w112.cell? ⟨gb193, 3, none⟩ = some (.int .i64 a0_3) := (blk_cell BK193.out 3).trans rfl; have hcz113_4 : w112.cell? ⟨gb193, 4, none⟩ = some (.slice A0_4 l0_4.length c0_4) := (blk_cell BK193.out 4).trans rfl; have hcz113_5 : w112.cell? ⟨gb193, 5, none⟩ = some (.int .u64 a0_5) := (blk_cell BK193.out 5).trans rfl; have hcz113_6 : w112.cell? ⟨gb193, 6, none⟩ = some (.bool a0_6) := (blk_cell BK193.out 6).trans rfl; have hfz113_0 := blk_frozen BK193.out 0; have hfz113_1 := blk_frozen BK193.out 1; have hfz113_2 := blk_frozen BK193.out 2; have hfz113_3 := blk_frozen BK193.out 3; have hfz113_4 := blk_frozen BK193.out 4; have hfz113_5 := blk_frozen BK193.out 5; have hfz113_6 := blk_frozen BK193.out 6) | ((with_reducible refine gate_callee (f := 16) rfl ?_); refine goesL_ (some 67) rfl rfl Try.func16 (by kernel_rfl) rfl #[.agg #[.int .u64 a0_0, .int .i64 a0_1, .int .i64 a0_2], .int .i64 a0_3, .slice Ao111 y220.length co111] rfl (by (try simp only [List.map_toArray, List.map_cons, List.map_nil]); first | done | rfl | (simp only [List.length_drop, List.length_take]; rfl)) ?_; (with_reducible refine (croftref11_Sound.calls k1 a0_0 a0_1 a0_2 a0_3 _ _ y220 t226 _ ?side1 ?side2 A58.out).mono ?_); (case side1 => repeat (first | exact (Kd.R_reads' HO222.out).2.2 | (with_reducible refine Kd.C_alloc ?_ _) | (with_reducible refine Kd.C_drewN ?_ _) | (with_reducible refine Kd.C_drew ?_))); (case side2 => exact (Kd.R_reads' HO222.out).2.1); rintro e w114 ⟨rfl, hb⟩; refine ⟨_, rfl, ?_⟩; have n0_ := Aside0.mk (Kd.R_below (by (with_reducible repeat (first | apply Kd.R_alloc | apply Kd.R_drewN | apply Kd.R_drew)); exact HO_5.out) hb); have n1_ := Aside0.mk (Kd.R_below (by (with_reducible repeat (first | apply Kd.R_alloc | apply Kd.R_drewN | apply Kd.R_drew)); exact HO219.out) hb); have n2_ := Aside0.mk (Kd.R_below (by (with_reducible repeat (first | apply Kd.R_alloc | apply Kd.R_drewN | apply Kd.R_drew)); exact HO222.out) hb); have n3_ := Aside0.mk (Kd.R_below (by (with_reducible repeat (first | apply Kd.R_alloc | apply Kd.R_drewN | apply Kd.R_drew)); exact HO225.out) hb); have n4_ := Aside0.mk (blk_below (g := gb193) (o := .cells #[.int .u64 a0_0, .int .i64 a0_1, .int .i64 a0_2, .int .i64 a0_3, .slice A0_4 l0_4.length c0_4, .int .u64 a0_5, .bool a0_6] 44 (0, 0)) (by (with_reducible repeat (first | refine blk_drewN ?_ _ | refine blk_drew ?_ | refine blk_alloc ?_ _)); exact BK193.out) hb); have n5_ := Aside0.mk (blk_below (g := gb194) (o := .cells #[.int .u64 a1_0, .int .u64 a1_1] 49 (0, 0)) (by (with_reducible repeat (first | refine blk_drewN ?_ _ | refine blk_drew ?_ | refine blk_alloc ?_ _)); exact BK194.out) hb); have n6_ := Aside0.mk (blk_below (g := gb202) (o := .cells #[.int .u64 t199, .int .i64 t200, .int .i64 t201] 29 (0, 0)) (by (with_reducible repeat (first | refine blk_drewN ?_ _ | refine blk_drew ?_ | refine blk_alloc ?_ _)); exact BK202.out) hb); have n7_ := Aside0.mk (below_step (by repeat (first | (with_reducible first | exact HB.out | apply below_alloc | apply pw_below_drewN | apply below_drew1 | refine below_set ?_ GE193.out | refine below_set ?_ GE194.out | refine below_set ?_ GE202.out) | exact HB.out)) hb); clear HO_5; clear HO219; clear HO222; clear HO225; clear BK193; clear BK194; clear BK202; clear HB; have HO_5 := n0_; have HO219 := n1_; have HO222 := n2_; have HO225 := n3_; have BK193 := n4_; have BK194 := n5_; have BK202 := n6_; have HB := n7_; clear n0_ n1_ n2_ n3_ n4_ n5_ n6_ n7_; (try clear hb); (try clear hb2); (try clear hk); (try clear hi)))
          go_ret
          exact ⟨by first | rfl | (simp [errW_none, errW_some] <;> rfl) | (simp [*, errW_none, errW_some] <;> rfl), by repeat (first | (with_reducible first | exact HB.out | apply below_alloc | apply pw_below_drewN | apply below_drew1 | refine below_set ?_ GE193.out | refine below_set ?_ GE194.out | refine below_set ?_ GE202.out) | exact HB.out)⟩
        ·rw [if_neg c56] at H
         exact absurd H (by simp)
    ·replace c10 := Bool.eq_false_iff.mpr c10
     subst c10
     have H1 : (some true) = some r := by rw [if_neg (show ¬ (false = true) by decide)] at H; exact H
     clear H
     have H := H1
     clear H1
     obtain rfl := Option.some.inj H
     go_enter Try.func6, Try.ntmps6
     try go_wp2_with (first | ((with_reducible refine gate_dst (N := 2) rfl ?_); (try (refine gate_guard (by rfl) ?_; dsimp only)); refine box_event ?hg (N := 2) ?hd (cs := #[.int .u64 a0_0, .int .i64 a0_1, .int .i64 a0_2, .int .i64 a0_3, .slice A0_4 l0_4.length c0_4, .int .u64 a0_5, .bool a0_6]) (t := 44) ?hr ?_; (case hd => rfl); (case hg => rfl); (case hr => first | (go_simp; done) | (go_simp; rfl)); intro gb193 hg w115 hbox hb; have n0_ := Aside0.mk (below_step (by repeat (first | (with_reducible first | exact HB.out | apply below_alloc | apply pw_below_drewN | apply below_drew1) | exact HB.out)) hb); have n1_ := Aside0.mk (hbox); have n2_ := Aside0.mk ((by rw [hg]; exact (below_size (by repeat (first | (with_reducible first | exact HB.out | apply below_alloc | apply pw_below_drewN | apply below_drew1) | exact HB.out))) : w.heap.size ≤ gb193)); have n3_ := Aside0.mk ((by rw [hg]; exact (below_size (by repeat (first | (with_reducible first | exact HB.out | apply below_alloc | apply pw_below_drewN | apply below_drew1) | exact HB.out))) : w.heap.size ≤ gb193)); clear HB; have HB := n0_; have BK193 := n1_; have GW193 := n2_; have GE193 := n3_; clear n0_ n1_ n2_ n3_; clear hb hbox hg) | ((with_reducible refine gate_dst (N := 3) rfl ?_); (try (refine gate_guard (by rfl) ?_; dsimp only)); refine box_event ?hg (N := 3) ?hd (cs := #[.int .u64 a1_0, .int .u64 a1_1]) (t := 49) ?hr ?_; (case hd => rfl); (case hg => rfl); (case hr => first | (go_simp; done) | (go_simp; rfl)); intro gb194 hg w116 hbox hb; have n0_ := Aside0.mk (blk_below (g := gb193) (o := .cells #[.int .u64 a0_0, .int .i64 a0_1, .int .i64 a0_2, .int .i64 a0_3, .slice A0_4 l0_4.length c0_4, .int .u64 a0_5, .bool a0_6] 44 (0, 0)) (by (with_reducible repeat (first | refine blk_drewN ?_ _ | refine blk_drew ?_ | refine blk_alloc ?_ _)); exact BK193.out) hb); have n1_ := Aside0.mk (below_step (by repeat (first | (with_reducible first | exact HB.out | apply below_alloc | apply pw_below_drewN | apply below_drew1 | refine below_set ?_ GE193.out) | exact HB.out)) hb); have n2_ := Aside0.mk (hbox); have n3_ := Aside0.mk ((by rw [hg]; exact (below_size (by repeat (first | (with_reducible first | exact HB.out | apply below_alloc | apply pw_below_drewN | apply below_drew1 | refine below_set ?_ GE193.out) | exact HB.out))) : w.heap.size ≤ gb194)); have n4_ := Aside0.mk ((by rw [hg]; exact (below_size (by repeat (first | (with_reducible first | exact HB.out | apply below_alloc | apply pw_below_drewN | apply below_drew1 | refine below_set ?_ GE193.out) | exact HB.out))) : w.heap.size ≤ gb194)); have n5_ := Aside0.mk ((by rw [hg]; exact Nat.ne_of_lt (blk_lt (g := gb193) (o := .cells #[.int .u64 a0_0, .int .i64 a0_1, .int .i64 a0_2, .int .i64 a0_3, .slice A0_4 l0_4.length c0_4, .int .u64 a0_5, .bool a0_6] 44 (0, 0)) (by (with_reducible repeat (first | refine blk_drewN ?_ _ | refine blk_drew ?_ | refine blk_alloc ?_ _)); exact BK193.out)) : gb193 ≠ gb194)); have n6_ := Aside0.mk ((by rw [hg]; exact Nat.ne_of_gt (blk_lt (g := gb193) (o := .cells #[.int .u64 a0_0, .int .i64 a0_1, .int .i64 a0_2, .int .i64 a0_3, .slice A0_4 l0_4.length c0_4, .int .u64 a0_5, .bool a0_6] 44 (0, 0)) (by (with_reducible repeat (first | refine blk_drewN ?_ _ | refine blk_drew ?_ | refine blk_alloc ?_ _)); exact BK193.out)) : gb194 ≠ gb193)); clear BK193; clear HB; have BK193 := n0_; have HB := n1_; have BK194 := n2_; have GW194 := n3_; have GE194 := n4_; have NB193_194 := n5_; have NB194_193 := n6_; clear n0_ n1_ n2_ n3_ n4_ n5_ n6_; clear hb hbox hg) | ((with_reducible refine gate_callee (f := 18) rfl ?_); refine goesL_ (some 10) rfl rfl Try.func18 (by kernel_rfl) rfl #[] rfl (by (try simp only [List.map_toArray, List.map_cons, List.map_nil]); first | done | rfl | (simp only [List.length_drop, List.length_take]; rfl)) ?_; (with_reducible refine (croftlaw11_awake.calls k  true _ A3.out).mono ?_); rintro e w117 ⟨rfl, hb⟩; refine ⟨_, rfl, ?_⟩; have n0_ := Aside0.mk (blk_below (g := gb193) (o := .cells #[.int .u64 a0_0, .int .i64 a0_1, .int .i64 a0_2, .int .i64 a0_3, .slice A0_4 l0_4.length c0_4, .int .u64 a0_5, .bool a0_6] 44 (0, 0)) (by (with_reducible repeat (first | refine blk_drewN ?_ _ | refine blk_drew ?_ | refine blk_alloc ?_ _)); exact BK193.out) hb); have n1_ := Aside0.mk (blk_below (g := gb194) (o := .cells #[.int .u64 a1_0, .int .u64 a1_1] 49 (0, 0)) (by (with_reducible repeat (first | refine blk_drewN ?_ _ | refine blk_drew ?_ | refine blk_alloc ?_ _)); exact BK194.out) hb); have n2_ := Aside0.mk (below_step (by repeat (first | (with_reducible first | exact HB.out | apply below_alloc | apply pw_below_drewN | apply below_drew1 | refine below_set ?_ GE193.out | refine below_set ?_ GE194.out) | exact HB.out)) hb); clear BK193; clear BK194; clear HB; have BK193 := n0_; have BK194 := n1_; have HB := n2_; clear n0_ n1_ n2_; (try clear hb); (try clear hb2); (try clear hk); (try clear hi); have hnb118 := NB193_194.out; have hnc118 := NB194_193.out; have hcz119_0 : w117.cell? ⟨gb193, 0, none⟩ = some (.int .u64 a0_0) := (blk_cell BK193.out 0).trans rfl; have hcz119_1 : w117.cell? ⟨gb193, 1, none⟩ = some (.int .i64 a0_1) := (blk_cell BK193.out 1).trans rfl; have hcz119_2 : w117.cell? ⟨gb193, 2, none⟩ = some (.int .i64 a0_2) := (blk_cell BK193.out 2).trans rfl; have hcz119_3 : w117.cell? ⟨gb193, 3, none⟩ = some (.int .i64 a0_3) := (blk_cell BK193.out 3).trans rfl; have hcz119_4 : w117.cell? ⟨gb193, 4, none⟩ = some (.slice A0_4 l0_4.length c0_4) := (blk_cell BK193.out 4).trans rfl; have hcz119_5 : w117.cell? ⟨gb193, 5, none⟩ = some (.int .u64 a0_5) := (blk_cell BK193.out 5).trans rfl; have hcz119_6 : w117.cell? ⟨gb193, 6, none⟩ = some (.bool a0_6) := (blk_cell BK193.out 6).trans rfl; have hfz119_0 := blk_frozen BK193.out 0; have hfz119_1 := blk_frozen BK193.out 1; have hfz119_2 := blk_frozen BK193.out 2; have hfz119_3 := blk_frozen BK193.out 3; have hfz119_4 := blk_frozen BK193.out 4; have hfz119_5 := blk_frozen BK193.out 5; have hfz119_6 := blk_frozen BK193.out 6) | ((with_reducible refine gate_callee (f := 13) rfl ?_); refine goesL_ (some 14) rfl rfl Try.func13 (by kernel_rfl) rfl #[.slice A0_4 l0_4.length c0_4] rfl (by (try simp only [List.map_toArray, List.map_cons, List.map_nil]); first | done | rfl | (simp only [List.length_drop, List.length_take]; rfl)) ?_; (with_reducible refine (croftlaw11_blocks.calls k _ _ l0_4 t196 _ ?side1 ?side2 A5.out).mono ?_); (case side1 => repeat (first | exact (Kd.C_below HR0_4.out HB.out) | (with_reducible refine Kd.C_alloc ?_ _) | (with_reducible refine Kd.C_drewN ?_ _) | (with_reducible refine Kd.C_drew ?_))); (case side2 => exact HC0_4.out); rintro e w120 ⟨v197, rfl, ho0, hb⟩; refine ⟨_, rfl, ?_⟩; have n0_ := Aside0.mk (Kd.R_lower ho0 (below_size (by repeat (first | (with_reducible first | exact HB.out | apply below_alloc | apply pw_below_drewN | apply below_drew1 | refine below_set ?_ GE193.out | refine below_set ?_ GE194.out) | exact HB.out)))); have n1_ := Aside0.mk (blk_below (g := gb193) (o := .cells #[.int .u64 a0_0, .int .i64 a0_1, .int .i64 a0_2, .int .i64 a0_3, .slice A0_4 l0_4.length c0_4, .int .u64 a0_5, .bool a0_6] 44 (0, 0)) (by (with_reducible repeat (first | refine blk_drewN ?_ _ | refine blk_drew ?_ | refine blk_alloc ?_ _)); exact BK193.out) hb); have n2_ := Aside0.mk (blk_below (g := gb194) (o := .cells #[.int .u64 a1_0, .int .u64 a1_1] 49 (0, 0)) (by (with_reducible repeat (first | refine blk_drewN ?_ _ | refine blk_drew ?_ | refine blk_alloc ?_ _)); exact BK194.out) hb); have n3_ := Aside0.mk (below_step (by repeat (first | (with_reducible first | exact HB.out | apply below_alloc | apply pw_below_drewN | apply below_drew1 | refine below_set ?_ GE193.out | refine below_set ?_ GE194.out) | exact HB.out)) hb); clear BK193; clear BK194; clear HB; have HO198 := n0_; have BK193 := n1_; have BK194 := n2_; have HB := n3_; clear n0_ n1_ n2_ n3_; (try clear hb); (try clear hb2); (try clear hk); (try clear hi); (try clear ho0); have hcz121_0 : w120.cell? ⟨gb193, 0, none⟩ = some (.int .u64 a0_0) := (blk_cell BK193.out 0).trans rfl; have hcz121_1 : w120.cell? ⟨gb193, 1, none⟩ = some (.int .i64 a0_1) := (blk_cell BK193.out 1).trans rfl; have hcz121_2 : w120.cell? ⟨gb193, 2, none⟩ = some (.int .i64 a0_2) := (blk_cell BK193.out 2).trans rfl; have hcz121_3 : w120.cell? ⟨gb193, 3, none⟩ = some (.int .i64 a0_3) := (blk_cell BK193.out 3).trans rfl; have hcz121_4 : w120.cell? ⟨gb193, 4, none⟩ = some (.slice A0_4 l0_4.length c0_4) := (blk_cell BK193.out 4).trans rfl; have hcz121_5 : w120.cell? ⟨gb193, 5, none⟩ = some (.int .u64 a0_5) := (blk_cell BK193.out 5).trans rfl; have hcz121_6 : w120.cell? ⟨gb193, 6, none⟩ = some (.bool a0_6) := (blk_cell BK193.out 6).trans rfl; have hfz121_0 := blk_frozen BK193.out 0; have hfz121_1 := blk_frozen BK193.out 1; have hfz121_2 := blk_frozen BK193.out 2; have hfz121_3 := blk_frozen BK193.out 3; have hfz121_4 := blk_frozen BK193.out 4; have hfz121_5 := blk_frozen BK193.out 5; have hfz121_6 := blk_frozen BK193.out 6) | ((with_reducible refine gate_callee (f := 15) rfl ?_); refine goesL_ (some 17) rfl rfl Try.func15 (by kernel_rfl) rfl #[.agg #[.int .u64 a0_0, .int .i64 a0_1, .int .i64 a0_2]] rfl (by (try simp only [List.map_toArray, List.map_cons, List.map_nil]); first | done | rfl | (simp only [List.length_drop, List.length_take]; rfl)) ?_; (with_reducible refine (croftlaw11_config.calls a0_0 a0_1 a0_2 t199 t200 t201 _ A6.out).mono ?_); rintro e w122 ⟨rfl, hb⟩; refine ⟨_, rfl, ?_⟩; have n0_ := Aside0.mk (Kd.R_below (by (with_reducible repeat (first | apply Kd.R_alloc | apply Kd.R_drewN | apply Kd.R_drew)); exact HO198.out) hb); have n1_ := Aside0.mk (blk_below (g := gb193) (o := .cells #[.int .u64 a0_0, .int .i64 a0_1, .int .i64 a0_2, .int .i64 a0_3, .slice A0_4 l0_4.length c0_4, .int .u64 a0_5, .bool a0_6] 44 (0, 0)) (by (with_reducible repeat (first | refine blk_drewN ?_ _ | refine blk_drew ?_ | refine blk_alloc ?_ _)); exact BK193.out) hb); have n2_ := Aside0.mk (blk_below (g := gb194) (o := .cells #[.int .u64 a1_0, .int .u64 a1_1] 49 (0, 0)) (by (with_reducible repeat (first | refine blk_drewN ?_ _ | refine blk_drew ?_ | refine blk_alloc ?_ _)); exact BK194.out) hb); have n3_ := Aside0.mk (below_step (by repeat (first | (with_reducible first | exact HB.out | apply below_alloc | apply pw_below_drewN | apply below_drew1 | refine below_set ?_ GE193.out | refine below_set ?_ GE194.out) | exact HB.out)) hb); clear HO198; clear BK193; clear BK194; clear HB; have HO198 := n0_; have BK193 := n1_; have BK194 := n2_; have HB := n3_; clear n0_ n1_ n2_ n3_; (try clear hb); (try clear hb2); (try clear hk); (try clear hi)) | ((with_reducible refine gate_dst (N := 6) rfl ?_); (try (refine gate_guard (by rfl) ?_; dsimp only)); refine box_event ?hg (N := 6) ?hd (cs := #[.int .u64 0, .int .i64 0, .int .i64 0]) (t := 29) ?hr ?_; (case hd => rfl); (case hg => rfl); (case hr => first | (go_simp; done) | (go_simp; rfl)); intro gb202 hg w123 hbox hb; have n0_ := Aside0.mk (Kd.R_below (by (with_reducible repeat (first | apply Kd.R_alloc | apply Kd.R_drewN | apply Kd.R_drew)); exact HO198.out) hb); have n1_ := Aside0.mk (blk_below (g := gb193) (o := .cells #[.int .u64 a0_0, .int .i64 a0_1, .int .i64 a0_2, .int .i64 a0_3, .slice A0_4 l0_4.length c0_4, .int .u64 a0_5, .bool a0_6] 44 (0, 0)) (by (with_reducible repeat (first | refine blk_drewN ?_ _ | refine blk_drew ?_ | refine blk_alloc ?_ _)); exact BK193.out) hb); have n2_ := Aside0.mk (blk_below (g := gb194) (o := .cells #[.int .u64 a1_0, .int .u64 a1_1] 49 (0, 0)) (by (with_reducible repeat (first | refine blk_drewN ?_ _ | refine blk_drew ?_ | refine blk_alloc ?_ _)); exact BK194.out) hb); have n3_ := Aside0.mk (below_step (by repeat (first | (with_reducible first | exact HB.out | apply below_alloc | apply pw_below_drewN | apply below_drew1 | refine below_set ?_ GE193.out | refine below_set ?_ GE194.out) | exact HB.out)) hb); have n4_ := Aside0.mk (hbox); have n5_ := Aside0.mk ((by rw [hg]; exact (below_size (by repeat (first | (with_reducible first | exact HB.out | apply below_alloc | apply pw_below_drewN | apply below_drew1 | refine below_set ?_ GE193.out | refine below_set ?_ GE194.out) | exact HB.out))) : w.heap.size ≤ gb202)); have n6_ := Aside0.mk ((by rw [hg]; exact (below_size (by repeat (first | (with_reducible first | exact HB.out | apply below_alloc | apply pw_below_drewN | apply below_drew1 | refine below_set ?_ GE193.out | refine below_set ?_ GE194.out) | exact HB.out))) : w.heap.size ≤ gb202)); have n7_ := Aside0.mk ((by rw [hg]; exact Nat.ne_of_lt (blk_lt (g := gb193) (o := .cells #[.int .u64 a0_0, .int .i64 a0_1, .int .i64 a0_2, .int .i64 a0_3, .slice A0_4 l0_4.length c0_4, .int .u64 a0_5, .bool a0_6] 44 (0, 0)) (by (with_reducible repeat (first | refine blk_drewN ?_ _ | refine blk_drew ?_ | refine blk_alloc ?_ _)); exact BK193.out)) : gb193 ≠ gb202)); have n8_ := Aside0.mk ((by rw [hg]; exact Nat.ne_of_gt (blk_lt (g := gb193) (o := .cells #[.int .u64 a0_0, .int .i64 a0_1, .int .i64 a0_2, .int .i64 a0_3, .slice A0_4 l0_4.length c0_4, .int .u64 a0_5, .bool a0_6] 44 (0, 0)) (by (with_reducible repeat (first | refine blk_drewN ?_ _ | refine blk_drew ?_ | refine blk_alloc ?_ _)); exact BK193.out)) : gb202 ≠ gb193)); have n9_ := Aside0.mk ((by rw [hg]; exact Nat.ne_of_lt (blk_lt (g := gb194) (o := .cells #[.int .u64 a1_0, .int .u64 a1_1] 49 (0, 0)) (by (with_reducible repeat (first | refine blk_drewN ?_ _ | refine blk_drew ?_ | refine blk_alloc ?_ _)); exact BK194.out)) : gb194 ≠ gb202)); have n10_ := Aside0.mk ((by rw [hg]; exact Nat.ne_of_gt (blk_lt (g := gb194) (o := .cells #[.int .u64 a1_0, .int .u64 a1_1] 49 (0, 0)) (by (with_reducible repeat (first | refine blk_drewN ?_ _ | refine blk_drew ?_ | refine blk_alloc ?_ _)); exact BK194.out)) : gb202 ≠ gb194)); clear HO198; clear BK193; clear BK194; clear HB; have HO198 := n0_; have BK193 := n1_; have BK194 := n2_; have HB := n3_; have BK202 := n4_; have GW202 := n5_; have GE202 := n6_; have NB193_202 := n7_; have NB202_193 := n8_; have NB194_202 := n9_; have NB202_194 := n10_; clear n0_ n1_ n2_ n3_ n4_ n5_ n6_ n7_ n8_ n9_ n10_; clear hb hbox hg; have hnb124 := NB202_193.out; have hnc124 := NB193_202.out; have hnb125 := NB202_194.out; have hnc125 := NB194_202.out; have hcz126_0 : w123.cell? ⟨gb202, 0, none⟩ = some (.int .u64 0) := (blk_cell BK202.out 0).trans rfl; have hcz126_1 : w123.cell? ⟨gb202, 1, none⟩ = some (.int .i64 0) := (blk_cell BK202.out 1).trans rfl; have hcz126_2 : w123.cell? ⟨gb202, 2, none⟩ = some (.int .i64 0) := (blk_cell BK202.out 2).trans rfl; have hfz126_0 := blk_frozen BK202.out 0; have hfz126_1 := blk_frozen BK202.out 1; have hfz126_2 := blk_frozen BK202.out 2))
     have n0_ : Aside0 (Kd.R k55 55 (((w123.setCell ⟨gb202, 0, none⟩ (.int .u64 t199)).setCell ⟨gb202, 1, none⟩ (.int .i64 t200)).setCell ⟨gb202, 2, none⟩ (.int .i64 t201)) w.heap.size (fun _ => True) v197 t196) := ⟨by (with_reducible repeat (first | apply Kd.R_alloc | apply Kd.R_drewN | apply Kd.R_drew)); exact Kd.R_mono (Kd.R_far (p := ⟨gb202, 2, none⟩) (Kd.R_far (p := ⟨gb202, 1, none⟩) (Kd.R_far (p := ⟨gb202, 0, none⟩) (Kd.R_types HO198.out BK202.out (by decide)) (fun _ hk => hk.2) (.int .u64 t199)) (fun _ hk => hk.2) (.int .i64 t200)) (fun _ hk => hk.2) (.int .i64 t201)) (fun _ hk => trivial)⟩
     have n1_ : Aside0 ((((w123.setCell ⟨gb202, 0, none⟩ (.int .u64 t199)).setCell ⟨gb202, 1, none⟩ (.int .i64 t200)).setCell ⟨gb202, 2, none⟩ (.int .i64 t201)).heap[gb193]? = some (.cells #[.int .u64 a0_0, .int .i64 a0_1, .int .i64 a0_2, .int .i64 a0_3, .slice A0_4 l0_4.length c0_4, .int .u64 a0_5, .bool a0_6] 44 (0, 0))) := ⟨by (with_reducible repeat (first | refine blk_drewN ?_ _ | refine blk_drew ?_ | refine blk_alloc ?_ _)); refine blk_far ?_ NB193_202.out _; (with_reducible repeat (first | refine blk_drewN ?_ _ | refine blk_drew ?_ | refine blk_alloc ?_ _)); refine blk_far ?_ NB193_202.out _; (with_reducible repeat (first | refine blk_drewN ?_ _ | refine blk_drew ?_ | refine blk_alloc ?_ _)); refine blk_far ?_ NB193_202.out _; (with_reducible repeat (first | refine blk_drewN ?_ _ | refine blk_drew ?_ | refine blk_alloc ?_ _)); exact BK193.out⟩
     have n2_ : Aside0 ((((w123.setCell ⟨gb202, 0, none⟩ (.int .u64 t199)).setCell ⟨gb202, 1, none⟩ (.int .i64 t200)).setCell ⟨gb202, 2, none⟩ (.int .i64 t201)).heap[gb194]? = some (.cells #[.int .u64 a1_0, .int .u64 a1_1] 49 (0, 0))) := ⟨by (with_reducible repeat (first | refine blk_drewN ?_ _ | refine blk_drew ?_ | refine blk_alloc ?_ _)); refine blk_far ?_ NB194_202.out _; (with_reducible repeat (first | refine blk_drewN ?_ _ | refine blk_drew ?_ | refine blk_alloc ?_ _)); refine blk_far ?_ NB194_202.out _; (with_reducible repeat (first | refine blk_drewN ?_ _ | refine blk_drew ?_ | refine blk_alloc ?_ _)); refine blk_far ?_ NB194_202.out _; (with_reducible repeat (first | refine blk_drewN ?_ _ | refine blk_drew ?_ | refine blk_alloc ?_ _)); exact BK194.out⟩
     have n3_ : Aside0 ((((w123.setCell ⟨gb202, 0, none⟩ (.int .u64 t199)).setCell ⟨gb202, 1, none⟩ (.int .i64 t200)).setCell ⟨gb202, 2, none⟩ (.int .i64 t201)).heap[gb202]? = some (.cells #[.int .u64 t199, .int .i64 t200, .int .i64 t201] 29 (0, 0))) := ⟨by (with_reducible repeat (first | refine blk_drewN ?_ _ | refine blk_drew ?_ | refine blk_alloc ?_ _)); refine blk_put (cs := #[.int .u64 t199, .int .i64 t200, .int .i64 0]) ?_ 2 _ rfl; (with_reducible repeat (first | refine blk_drewN ?_ _ | refine blk_drew ?_ | refine blk_alloc ?_ _)); refine blk_put (cs := #[.int .u64 t199, .int .i64 0, .int .i64 0]) ?_ 1 _ rfl; (with_reducible repeat (first | refine blk_drewN ?_ _ | refine blk_drew ?_ | refine blk_alloc ?_ _)); refine blk_put (cs := #[.int .u64 0, .int .i64 0, .int .i64 0]) ?_ 0 _ rfl; (with_reducible repeat (first | refine blk_drewN ?_ _ | refine blk_drew ?_ | refine blk_alloc ?_ _)); exact BK202.out⟩
     have n4_ : Aside0 (Below w.heap.size w (((w123.setCell ⟨gb202, 0, none⟩ (.int .u64 t199)).setCell ⟨gb202, 1, none⟩ (.int .i64 t200)).setCell ⟨gb202, 2, none⟩ (.int .i64 t201))) := ⟨by repeat (first | (with_reducible first | exact HB.out | apply below_alloc | apply pw_below_drewN | apply below_drew1 | refine below_set ?_ GE193.out | refine below_set ?_ GE194.out | refine below_set ?_ GE202.out) | exact HB.out)⟩
     (try clear HO198)
     (try clear BK193)
     (try clear BK194)
     (try clear BK202)
     (try clear HB)
     generalize (((w123.setCell ⟨gb202, 0, none⟩ (.int .u64 t199)).setCell ⟨gb202, 1, none⟩ (.int .i64 t200)).setCell ⟨gb202, 2, none⟩ (.int .i64 t201)) = w127 at n0_ n1_ n2_ n3_ n4_ ⊢
     have HO198 := n0_
     have BK193 := n1_
     have BK194 := n2_
     have BK202 := n3_
     have HB := n4_
     clear n0_ n1_ n2_ n3_ n4_
     have n0_ := Aside0.mk (Kd.R_drew HO198.out)
     have n1_ := Aside0.mk (blk_drew BK193.out)
     have n2_ := Aside0.mk (blk_drew BK194.out)
     have n3_ := Aside0.mk (blk_drew BK202.out)
     have n4_ := Aside0.mk (below_drew1 HB.out)
     clear HO198
     clear BK193
     clear BK194
     clear BK202
     clear HB
     have HO198 := n0_
     have BK193 := n1_
     have BK194 := n2_
     have BK202 := n3_
     have HB := n4_
     clear n0_ n1_ n2_ n3_ n4_
     obtain ⟨Ao130, co130, eo130⟩ := Kd.R_slice HO198.out
     (first | subst eo130 | (injection eo130 with f1_ f2_ f3_; have f4_ := f1_.symm; have f5_ := f3_.symm; clear f1_ f2_ f3_; subst f4_; subst f5_))
     have q129 : ((l0_4.length : Int) : Int) ≤ ((t196.length : Int) : Int) := of_decide_eq_true (by first | (with_reducible assumption) | assumption)
     obtain ⟨i0129, hi0129, _, hsz129, _⟩ := info_parts info55
     have hroom129 : t196.length ≤ co130 := (Kd.R_reads' HO198.out).2.1
     have hC129 : Kd.C k55 _ Ao130 t196.length t196 := (Kd.R_reads' HO198.out).2.2
     have hcut129 := cut_to (P := Try.prog) 26 55 .i64 Try.underlying26 hi0129 Ao130 t196.length co130 (l0_4.length : Int) (of_decide_eq_true (by first | (with_reducible assumption) | assumption)) q129 hroom129
     have hr129 := Kd.C_take (m := ((l0_4.length : Int) : Int).toNat) hC129 (by omega)
     have hy129 : y203.length = ((l0_4.length : Int) : Int).toNat := (by rw [Ny203.out, List.length_take]; omega)
     rw [← Ny203.out] at hr129
     rw [← hy129] at hcut129
     have HR206 := Aside0.mk hr129
     have HC206 := Aside0.mk (show y203.length ≤ co130 from by omega)
     clear hr129 hC129 hroom129 hi0129 hsz129
     have KY129 := Aside0.mk hy129
     clear hy129
     have KL129 := Aside0.mk (show ((l0_4.length : Int) : Int).toNat ≤ t196.length from by omega)
     replace q129 := eq_true q129
     refine start_ (n := 12) (S := fun w' => w'.cell? ⟨gb202, 0, none⟩ = some (.int .u64 t199) ∧ w'.cell? ⟨gb202, 1, none⟩ = some (.int .i64 t200) ∧ w'.cell? ⟨gb202, 2, none⟩ = some (.int .i64 t201) ∧ w'.cell? ⟨gb193, 0, none⟩ = some (.int .u64 a0_0) ∧ w'.cell? ⟨gb193, 1, none⟩ = some (.int .i64 a0_1) ∧ w'.cell? ⟨gb193, 2, none⟩ = some (.int .i64 a0_2) ∧ w'.cell? ⟨gb193, 3, none⟩ = some (.int .i64 a0_3) ∧ w'.cell? ⟨gb193, 4, none⟩ = some (.slice A0_4 l0_4.length c0_4) ∧ w'.cell? ⟨gb193, 5, none⟩ = some (.int .u64 a0_5) ∧ w'.cell? ⟨gb193, 6, none⟩ = some (.bool a0_6)) (ds := []) #[F,F,F,F,F,F,F,F,F,F,F,F] (by kernel_rfl) rfl rfl ⟨(blk_cell BK202.out 0).trans rfl, (blk_cell BK202.out 1).trans rfl, (blk_cell BK202.out 2).trans rfl, (blk_cell BK193.out 0).trans rfl, (blk_cell BK193.out 1).trans rfl, (blk_cell BK193.out 2).trans rfl, (blk_cell BK193.out 3).trans rfl, (blk_cell BK193.out 4).trans rfl, (blk_cell BK193.out 5).trans rfl, (blk_cell BK193.out 6).trans rfl⟩ (fun hHeld => ?_); refine with_tabW croftlaw11_OracleRises.tab5 croftlaw11_OracleRises.bits5 (fun HT_ HW_ => ?_)
     generalize w127.drew = w128 at HO198 BK193 BK194 BK202 HB HR206 hHeld ⊢
     refine pure_ (i := 1) (N := some 19) (v := ?_) (a' := ?_) #[F,T,F,F,F,F,F,F,F,F,F,F] rfl rfl (any_of HT_.out (by kernel_rfl)) (fun _ _ _ h => h) (Or.inl ⟨by rfl, ?_⟩) ?_ ?_
     rotate_left
     ·intro w'
      go_simp
      with_reducible rfl
     rotate_left
     ·simp only [Act.put, Sa, Sb, Sc, i64_w, i32_w]
      rfl
     refine pure_ (i := 3) (N := some 21) (v := ?_) (a' := ?_) #[F,T,F,T,F,F,F,F,F,F,F,F] rfl rfl (any_of HT_.out (by kernel_rfl)) (fun _ _ _ h => h) (Or.inl ⟨by rfl, ?_⟩) ?_ ?_
     rotate_left
     ·intro w'
      go_simp
      with_reducible rfl
     rotate_left
     ·simp only [Act.put, Sa, Sb, Sc, i64_w, i32_w]
      rfl
     refine pure_ (i := 4) (N := some 22) (v := ?_) (a' := ?_) #[F,T,F,T,T,F,F,F,F,F,F,F] rfl rfl (any_of HT_.out (by kernel_rfl)) (fun _ _ _ h => h) (Or.inl ⟨by rfl, ?_⟩) ?_ ?_
     rotate_left
     ·intro w'
      go_simp
      with_reducible rfl
     rotate_left
     ·simp only [Act.put, Sa, Sb, Sc, i64_w, i32_w]
      rfl
     refine pure_ (i := 8) (N := some 26) (v := ?_) (a' := ?_) #[F,T,F,T,T,F,F,F,T,F,F,F] rfl rfl (any_of HT_.out (by kernel_rfl)) (fun _ _ _ h => h) (Or.inl ⟨by rfl, ?_⟩) ?_ ?_
     rotate_left
     ·intro w'
      go_simp
      with_reducible rfl
     rotate_left
     ·simp only [Act.put, Sa, Sb, Sc, i64_w, i32_w]
      rfl
     refine take_ (i := 0) (N := some 18) (v := ?_) (a' := ?_) #[T,T,F,T,T,F,F,F,T,F,F,F] rfl rfl (take_ofW HT_.out HW_.out (by kernel_rfl)) (fun _ _ _ h => h) (Or.inl ⟨by rfl, ?_⟩) hHeld ?_ ?_
     rotate_left
     ·rintro w' ⟨s0, s1, s2, s3, s4, s5, s6, s7, s8, s9⟩
      go_simp
      with_reducible rfl
     rotate_left
     ·simp only [Act.put, Sa, Sb, Sc, i64_w, i32_w]
      rfl
     refine take_ (i := 2) (N := some 20) (v := ?_) (a' := ?_) #[T,T,T,T,T,F,F,F,T,F,F,F] rfl rfl (take_ofW HT_.out HW_.out (by kernel_rfl)) (fun _ _ _ h => h) (Or.inl ⟨by rfl, ?_⟩) hHeld ?_ ?_
     rotate_left
     ·rintro w' ⟨s0, s1, s2, s3, s4, s5, s6, s7, s8, s9⟩
      go_simp
      with_reducible rfl
     rotate_left
     ·simp only [Act.put, Sa, Sb, Sc, i64_w, i32_w]
      rfl
     refine take_ (i := 5) (N := some 23) (v := ?_) (a' := ?_) #[T,T,T,T,T,T,F,F,T,F,F,F] rfl rfl (take_ofW HT_.out HW_.out (by kernel_rfl)) (fun _ _ _ h => h) (Or.inl ⟨by rfl, ?_⟩) hHeld ?_ ?_
     rotate_left
     ·rintro w' ⟨s0, s1, s2, s3, s4, s5, s6, s7, s8, s9⟩
      go_simp
      with_reducible rfl
     rotate_left
     ·simp only [Act.put, Sa, Sb, Sc, i64_w, i32_w]
      rfl
     refine pure_ (i := 6) (N := some 24) (v := ?_) (a' := ?_) #[T,T,T,T,T,T,T,F,T,F,F,F] rfl rfl (any_of HT_.out (by kernel_rfl)) (fun _ _ _ h => h) (Or.inl ⟨by rfl, ?_⟩) ?_ ?_
     rotate_left
     ·intro w'
      go_simp
      with_reducible rfl
     rotate_left
     ·simp only [Act.put, Sa, Sb, Sc, i64_w, i32_w]
      rfl
     refine pure_ (i := 7) (N := some 25) (v := ?_) (a' := ?_) #[T,T,T,T,T,T,T,T,T,F,F,F] rfl rfl (any_of HT_.out (by kernel_rfl)) (fun _ _ _ h => h) (Or.inl ⟨by rfl, ?_⟩) ?_ ?_
     rotate_left
     ·intro w'
      go_simp
      with_reducible rfl
     rotate_left
     ·simp only [Act.put, Sa, Sb, Sc, i64_w, i32_w]
      rfl
     refine take_ (i := 9) (N := some 27) (v := ?_) (a' := ?_) #[T,T,T,T,T,T,T,T,T,T,F,F] rfl rfl (take_ofW HT_.out HW_.out (by kernel_rfl)) (fun _ _ _ h => h) (Or.inl ⟨by rfl, ?_⟩) hHeld ?_ ?_
     rotate_left
     ·rintro w' ⟨s0, s1, s2, s3, s4, s5, s6, s7, s8, s9⟩
      go_simp
      with_reducible rfl
     rotate_left
     ·simp only [Act.put, Sa, Sb, Sc, i64_w, i32_w]
      rfl
     refine one_ (i := 10) (N := some 28) #[T,T,T,T,T,T,T,T,T,T,T,F] rfl rfl (one_of HT_.out (by kernel_rfl)) (by decide) (fun K hK => ?_)
     refine goes_ Try.func23 (by kernel_rfl) rfl #[.agg #[.int .u64 t199, .int .i64 t200, .int .i64 t201], .int .i64 a0_3, .slice Ao130 y203.length co130, .int .u64 a0_5] (by rfl) rfl rfl (by (try simp only [List.map_toArray, List.map_cons, List.map_nil]); first | done | rfl | (simp only [List.length_drop, List.length_take]; rfl)) ?_
     with_reducible refine (oracle_NoFit.calls t199 t200 t201 a0_3 _ _ y203 a0_5 false _ ?side1 ?side2 A9.out).mono ?_
     (case side1 => repeat (first | exact (by repeat (first | (with_reducible exact HR206.out) | (with_reducible refine Kd.C_alloc ?_ _) | (with_reducible refine Kd.C_drewN ?_ _) | (with_reducible refine Kd.C_drew ?_) | exact HR206.out)) | (with_reducible refine Kd.C_alloc ?_ _) | (with_reducible refine Kd.C_drewN ?_ _) | (with_reducible refine Kd.C_drew ?_)))
     (case side2 => exact HC206.out)
     rintro e w131 ⟨rfl, hb⟩
     refine ⟨_, rfl, ?_⟩
     have n0_ := Aside0.mk (Kd.R_below (by (with_reducible repeat (first | apply Kd.R_alloc | apply Kd.R_drewN | apply Kd.R_drew)); exact HO198.out) hb)
     have n1_ := Aside0.mk (blk_below (g := gb193) (o := .cells #[.int .u64 a0_0, .int .i64 a0_1, .int .i64 a0_2, .int .i64 a0_3, .slice A0_4 l0_4.length c0_4, .int .u64 a0_5, .bool a0_6] 44 (0, 0)) (by (with_reducible repeat (first | refine blk_drewN ?_ _ | refine blk_drew ?_ | refine blk_alloc ?_ _)); exact BK193.out) hb)
     have n2_ := Aside0.mk (blk_below (g := gb194) (o := .cells #[.int .u64 a1_0, .int .u64 a1_1] 49 (0, 0)) (by (with_reducible repeat (first | refine blk_drewN ?_ _ | refine blk_drew ?_ | refine blk_alloc ?_ _)); exact BK194.out) hb)
     have n3_ := Aside0.mk (blk_below (g := gb202) (o := .cells #[.int .u64 t199, .int .i64 t200, .int .i64 t201] 29 (0, 0)) (by (with_reducible repeat (first | refine blk_drewN ?_ _ | refine blk_drew ?_ | refine blk_alloc ?_ _)); exact BK202.out) hb)
     have n4_ := Aside0.mk (Kd.C_below (by repeat (first | (with_reducible exact HR206.out) | (with_reducible refine Kd.C_alloc ?_ _) | (with_reducible refine Kd.C_drewN ?_ _) | (with_reducible refine Kd.C_drew ?_) | exact HR206.out)) hb)
     have n5_ := Aside0.mk (below_step (by repeat (first | (with_reducible first | exact HB.out | apply below_alloc | apply pw_below_drewN | apply below_drew1 | refine below_set ?_ GE193.out | refine below_set ?_ GE194.out | refine below_set ?_ GE202.out) | exact HB.out)) hb)
     clear HO198
     clear BK193
     clear BK194
     clear BK202
     clear HR206
     clear HB
     have HO198 := n0_
     have BK193 := n1_
     have BK194 := n2_
     have BK202 := n3_
     have HR206 := n4_
     have HB := n5_
     clear n0_ n1_ n2_ n3_ n4_ n5_
     (try clear hb)
     (try clear hb2)
     (try clear hk)
     (try clear hi)
     refine hK.out _ _ ⟨(blk_cell BK202.out 0).trans rfl, (blk_cell BK202.out 1).trans rfl, (blk_cell BK202.out 2).trans rfl, (blk_cell BK193.out 0).trans rfl, (blk_cell BK193.out 1).trans rfl, (blk_cell BK193.out 2).trans rfl, (blk_cell BK193.out 3).trans rfl, (blk_cell BK193.out 4).trans rfl, (blk_cell BK193.out 5).trans rfl, (blk_cell BK193.out 6).trans rfl⟩ (fun hHeld => ?_)
     clear hK K
     refine norm_ (a' := ?_) ?_ ?_
     rotate_left
     ·show Act.put _ (some 28) _ = _
      simp only [Act.put, Sa, Sb, Sc, i64_w, i32_w]
      rfl
     refine pure_ (i := 11) (N := some 29) (v := ?_) (a' := ?_) #[T,T,T,T,T,T,T,T,T,T,T,T] rfl rfl (any_of HT_.out (by kernel_rfl)) (fun _ _ _ h => h) (Or.inl ⟨by rfl, ?_⟩) ?_ ?_
     rotate_left
     ·intro w'
      go_simp
      with_reducible rfl
     rotate_left
     ·simp only [Act.put, Sa, Sb, Sc, i64_w, i32_w]
      rfl
     refine done_ (done_of HT_.out (by kernel_rfl)) ?_
     try go_wp2
     go_ret
     exact ⟨by first | rfl | (simp [errW_none, errW_some] <;> rfl) | (simp [*, errW_none, errW_some] <;> rfl), by repeat (first | (with_reducible first | exact HB.out | apply below_alloc | apply pw_below_drewN | apply below_drew1 | refine below_set ?_ GE193.out | refine below_set ?_ GE194.out | refine below_set ?_ GE202.out) | exact HB.out)⟩
   ·rw [if_neg c8] at H
    exact absurd H (by simp)
  ·rw [if_neg c7] at H
   exact absurd H (by simp)
 ·replace c4 := Bool.eq_false_iff.mpr c4
  subst c4
  have H1 : (some false) = some r := by rw [if_neg (show ¬ (false = true) by decide)] at H; exact H
  clear H
  have H := H1
  clear H1
  obtain rfl := Option.some.inj H
  go_enter Try.func6, Try.ntmps6
  go_wp2_with (first | ((with_reducible refine gate_dst (N := 2) rfl ?_); (try (refine gate_guard (by rfl) ?_; dsimp only)); refine box_event ?hg (N := 2) ?hd (cs := #[.int .u64 a0_0, .int .i64 a0_1, .int .i64 a0_2, .int .i64 a0_3, .slice A0_4 l0_4.length c0_4, .int .u64 a0_5, .bool a0_6]) (t := 44) ?hr ?_; (case hd => rfl); (case hg => rfl); (case hr => first | (go_simp; done) | (go_simp; rfl)); intro gb193 hg w132 hbox hb; have n0_ := Aside0.mk (below_step (by repeat (first | (with_reducible first | exact HB.out | apply below_alloc | apply pw_below_drewN | apply below_drew1) | exact HB.out)) hb); have n1_ := Aside0.mk (hbox); have n2_ := Aside0.mk ((by rw [hg]; exact (below_size (by repeat (first | (with_reducible first | exact HB.out | apply below_alloc | apply pw_below_drewN | apply below_drew1) | exact HB.out))) : w.heap.size ≤ gb193)); have n3_ := Aside0.mk ((by rw [hg]; exact (below_size (by repeat (first | (with_reducible first | exact HB.out | apply below_alloc | apply pw_below_drewN | apply below_drew1) | exact HB.out))) : w.heap.size ≤ gb193)); clear HB; have HB := n0_; have BK193 := n1_; have GW193 := n2_; have GE193 := n3_; clear n0_ n1_ n2_ n3_; clear hb hbox hg) | ((with_reducible refine gate_dst (N := 3) rfl ?_); (try (refine gate_guard (by rfl) ?_; dsimp only)); refine box_event ?hg (N := 3) ?hd (cs := #[.int .u64 a1_0, .int .u64 a1_1]) (t := 49) ?hr ?_; (case hd => rfl); (case hg => rfl); (case hr => first | (go_simp; done) | (go_simp; rfl)); intro gb194 hg w133 hbox hb; have n0_ := Aside0.mk (blk_below (g := gb193) (o := .cells #[.int .u64 a0_0, .int .i64 a0_1, .int .i64 a0_2, .int .i64 a0_3, .slice A0_4 l0_4.length c0_4, .int .u64 a0_5, .bool a0_6] 44 (0, 0)) (by (with_reducible repeat (first | refine blk_drewN ?_ _ | refine blk_drew ?_ | refine blk_alloc ?_ _)); exact BK193.out) hb); have n1_ := Aside0.mk (below_step (by repeat (first | (with_reducible first | exact HB.out | apply below_alloc | apply pw_below_drewN | apply below_drew1 | refine below_set ?_ GE193.out) | exact HB.out)) hb); have n2_ := Aside0.mk (hbox); have n3_ := Aside0.mk ((by rw [hg]; exact (below_size (by repeat (first | (with_reducible first | exact HB.out | apply below_alloc | apply pw_below_drewN | apply below_drew1 | refine below_set ?_ GE193.out) | exact HB.out))) : w.heap.size ≤ gb194)); have n4_ := Aside0.mk ((by rw [hg]; exact (below_size (by repeat (first | (with_reducible first | exact HB.out | apply below_alloc | apply pw_below_drewN | apply below_drew1 | refine below_set ?_ GE193.out) | exact HB.out))) : w.heap.size ≤ gb194)); have n5_ := Aside0.mk ((by rw [hg]; exact Nat.ne_of_lt (blk_lt (g := gb193) (o := .cells #[.int .u64 a0_0, .int .i64 a0_1, .int .i64 a0_2, .int .i64 a0_3, .slice A0_4 l0_4.length c0_4, .int .u64 a0_5, .bool a0_6] 44 (0, 0)) (by (with_reducible repeat (first | refine blk_drewN ?_ _ | refine blk_drew ?_ | refine blk_alloc ?_ _)); exact BK193.out)) : gb193 ≠ gb194)); have n6_ := Aside0.mk ((by rw [hg]; exact Nat.ne_of_gt (blk_lt (g := gb193) (o := .cells #[.int .u64 a0_0, .int .i64 a0_1, .int .i64 a0_2, .int .i64 a0_3, .slice A0_4 l0_4.length c0_4, .int .u64 a0_5, .bool a0_6] 44 (0, 0)) (by (with_reducible repeat (first | refine blk_drewN ?_ _ | refine blk_drew ?_ | refine blk_alloc ?_ _)); exact BK193.out)) : gb194 ≠ gb193)); clear BK193; clear HB; have BK193 := n0_; have HB := n1_; have BK194 := n2_; have GW194 := n3_; have GE194 := n4_; have NB193_194 := n5_; have NB194_193 := n6_; clear n0_ n1_ n2_ n3_ n4_ n5_ n6_; clear hb hbox hg) | ((with_reducible refine gate_callee (f := 18) rfl ?_); refine goesL_ (some 10) rfl rfl Try.func18 (by kernel_rfl) rfl #[] rfl (by (try simp only [List.map_toArray, List.map_cons, List.map_nil]); first | done | rfl | (simp only [List.length_drop, List.length_take]; rfl)) ?_; (with_reducible refine (croftlaw11_awake.calls k  false _ A3.out).mono ?_); rintro e w134 ⟨rfl, hb⟩; refine ⟨_, rfl, ?_⟩; have n0_ := Aside0.mk (blk_below (g := gb193) (o := .cells #[.int .u64 a0_0, .int .i64 a0_1, .int .i64 a0_2, .int .i64 a0_3, .slice A0_4 l0_4.length c0_4, .int .u64 a0_5, .bool a0_6] 44 (0, 0)) (by (with_reducible repeat (first | refine blk_drewN ?_ _ | refine blk_drew ?_ | refine blk_alloc ?_ _)); exact BK193.out) hb); have n1_ := Aside0.mk (blk_below (g := gb194) (o := .cells #[.int .u64 a1_0, .int .u64 a1_1] 49 (0, 0)) (by (with_reducible repeat (first | refine blk_drewN ?_ _ | refine blk_drew ?_ | refine blk_alloc ?_ _)); exact BK194.out) hb); have n2_ := Aside0.mk (below_step (by repeat (first | (with_reducible first | exact HB.out | apply below_alloc | apply pw_below_drewN | apply below_drew1 | refine below_set ?_ GE193.out | refine below_set ?_ GE194.out) | exact HB.out)) hb); clear BK193; clear BK194; clear HB; have BK193 := n0_; have BK194 := n1_; have HB := n2_; clear n0_ n1_ n2_; (try clear hb); (try clear hb2); (try clear hk); (try clear hi)))
  go_ret
  exact ⟨by first | rfl | (simp [errW_none, errW_some] <;> rfl) | (simp [*, errW_none, errW_some] <;> rfl), by repeat (first | (with_reducible first | exact HB.out | apply below_alloc | apply pw_below_drewN | apply below_drew1 | refine below_set ?_ GE193.out | refine below_set ?_ GE194.out) | exact HB.out)⟩


end Go.Proofs.Ytihfblnjgaalcaa.R
