import Derived.Test.YtihfblnjgaalcaaRN2
namespace Go.Proofs.Ytihfblnjgaalcaa.R
open Go.RowKit Go.Proofs.YtihfblnjgaalcaaW.PrintWords Go.Proofs.YtihfblnjgaalcaaW.PrintLast Go.Proofs.YtihfblnjgaalcaaW.PrintMore
attribute [local go_sem] max2_int min2_int max_two min_two max_three min_three max_four min_four
set_option linter.unusedVariables false
set_option linter.unusedSimpArgs false

/-! ### croftlaw11_OracleAgain: function 8 -/
def croftlaw11_OracleAgain.l0 : Nat → List (S49) → List (S55) → Int → Bool → List (S55) → Int → Int → Int → Int → Int → List (S49) → Int → Bool → Int → Int → Int → Option (Bool)
 | 0, _, _, _, _, _, _, _, _, _, _, _, _, _, _, _, _ => none
 | k + 1, x1, x5, x6, x8, x9, x10, x204000, x204001, x204002, x204003, x204004, x204005, x204006, x212000, x212001, x212002 => if x10 < x6 then (if 0 ≤ x10 then (if x10 < (x9.length : Int) then (if x10 < (x5.length : Int) then (croftlaw11_OracleAgain.l0 k x1 (x5.set (x10 : Int).toNat (⟨(rd_T55 x9 x10).f0, (rd_T55 x9 x10).f1⟩ : S55)) x6 x8 x9 (wrap64 (x10 + 1)) x204000 x204001 x204002 x204003 x204004 x204005 x204006 x212000 x212001 x212002) else (none)) else (none)) else (none)) else (if 0 ≤ x6 then (if x6 ≤ (x5.length : Int) then ((oracle_NoFit.f x212000 x212001 x212002 x204003 (x5.take (x6 : Int).toNat) x204005).bind fun t226 => ((oracle_Sound.f x212000 x212001 x212002 x204003 (x5.take (x6 : Int).toNat)).bind fun t231 => ((croftref11_NoFit.f k x204000 x204001 x204002 x204003 x204004 x204005).bind fun t232 => (if (x8 == t232) = true then ((croftref11_NoFit.f k x204000 x204001 x204002 x204003 x1 x204005).bind fun t233 => (if (t226 == t233) = true then ((croftref11_Sound.f k x204000 x204001 x204002 x204003 x1).bind fun t234 => (some (t231 == t234))) else (some false))) else (some false))))) else (none)) else (none))
def croftlaw11_OracleAgain.f (k : Nat) (a0_0 : Int) (a0_1 : Int) (a0_2 : Int) (a0_3 : Int) (l0_4 : List (S49)) (a0_5 : Int) (a0_6 : Bool) (l1 : List (S49)) : Option (Bool) := (croftlaw11_awake.f k).bind fun t204 => (if t204 = true then (if (l1.length : Int) = (l0_4.length : Int) then ((croftlaw11_blocks.f k l0_4).bind fun t205 => ((croftlaw11_config.f a0_0 a0_1 a0_2).bind fun bt208 => (if 0 ≤ (l0_4.length : Int) then (if (l0_4.length : Int) ≤ (t205.length : Int) then ((oracle_NoFit.f bt208.1 bt208.2.1 bt208.2.2 a0_3 (t205.take ((l0_4.length : Int) : Int).toNat) a0_5).bind fun t216 => ((croftlaw11_blocks.f k l1).bind fun t217 => (croftlaw11_OracleAgain.l0 k l1 t205 (l0_4.length : Int) t216 t217 0 a0_0 a0_1 a0_2 a0_3 l0_4 a0_5 a0_6 bt208.1 bt208.2.1 bt208.2.2))) else (none)) else (none)))) else (some true)) else (some false))
theorem croftlaw11_OracleAgain.mono_l : ∀ k, (∀ y0 y1 y2 y3 y4 y5 y6 y7 y8 y9 y10 y11 y12 y13 y14 y15, LeO (croftlaw11_OracleAgain.l0 k y0 y1 y2 y3 y4 y5 y6 y7 y8 y9 y10 y11 y12 y13 y14 y15) (croftlaw11_OracleAgain.l0 (k + 1) y0 y1 y2 y3 y4 y5 y6 y7 y8 y9 y10 y11 y12 y13 y14 y15))
 | 0 => fun _ _ _ _ _ _ _ _ _ _ _ _ _ _ _ _ r h => by simp [croftlaw11_OracleAgain.l0] at h
 | k + 1 => by
  have ih0 := croftlaw11_OracleAgain.mono_l k
  ·intro y0 y1 y2 y3 y4 y5 y6 y7 y8 y9 y10 y11 y12 y13 y14 y15
   unfold croftlaw11_OracleAgain.l0
   repeat' first
   | (with_reducible exact ih0 _ _ _ _ _ _ _ _ _ _ _ _ _ _ _ _)
   | (with_reducible exact croftlaw11_awake.mono _)
   | (with_reducible exact croftlaw11_blocks.mono _ _)
   | (with_reducible exact croftref11_NoFit.mono _ _ _ _ _ _ _)
   | (with_reducible exact croftref11_Sound.mono _ _ _ _ _ _)
   | (with_reducible exact LeO.refl _)
   | (with_reducible exact LeO.none _)
   | (with_reducible refine LeO.ite ?_ ?_)
   | (with_reducible refine LeO.bind ?_ (fun _ => ?_))
   | exact ih0 _ _ _ _ _ _ _ _ _ _ _ _ _ _ _ _
   | exact croftlaw11_awake.mono _
   | exact croftlaw11_blocks.mono _ _
   | exact croftref11_NoFit.mono _ _ _ _ _ _ _
   | exact croftref11_Sound.mono _ _ _ _ _ _
   | exact LeO.none _
   | refine LeO.ite ?_ ?_
   | refine LeO.bind ?_ (fun _ => ?_)
theorem croftlaw11_OracleAgain.mono : ∀ a0 a1 a2 a3 a4 a5 a6 a7 k, LeO (croftlaw11_OracleAgain.f k a0 a1 a2 a3 a4 a5 a6 a7) (croftlaw11_OracleAgain.f (k + 1) a0 a1 a2 a3 a4 a5 a6 a7) := by
 intro a0 a1 a2 a3 a4 a5 a6 a7 k
 have ih0 := croftlaw11_OracleAgain.mono_l k
 unfold croftlaw11_OracleAgain.f
 repeat' first
   | (with_reducible exact ih0 _ _ _ _ _ _ _ _ _ _ _ _ _ _ _ _)
   | (with_reducible exact croftlaw11_awake.mono _)
   | (with_reducible exact croftlaw11_blocks.mono _ _)
   | (with_reducible exact croftref11_NoFit.mono _ _ _ _ _ _ _)
   | (with_reducible exact croftref11_Sound.mono _ _ _ _ _ _)
   | (with_reducible exact LeO.refl _)
   | (with_reducible exact LeO.none _)
   | (with_reducible refine LeO.ite ?_ ?_)
   | (with_reducible refine LeO.bind ?_ (fun _ => ?_))
   | exact ih0 _ _ _ _ _ _ _ _ _ _ _ _ _ _ _ _
   | exact croftlaw11_awake.mono _
   | exact croftlaw11_blocks.mono _ _
   | exact croftref11_NoFit.mono _ _ _ _ _ _ _
   | exact croftref11_Sound.mono _ _ _ _ _ _
   | exact LeO.none _
   | refine LeO.ite ?_ ?_
   | refine LeO.bind ?_ (fun _ => ?_)
def croftlaw11_OracleAgain.T8 : Bool × List (List Nat × List Nat) := (true, [([], []), ([], []), ([1], [1]), ([], []), ([], []), ([3, 4], [3, 4]), ([], []), ([6], [6]), ([0, 2, 5, 7], [0, 2, 5, 7]), ([8, 8, 0, 1, 2, 3, 4, 5, 6, 7, 8], [8])])
def croftlaw11_OracleAgain.B8 : List Nat := [0, 0, 2, 0, 0, 24, 0, 64, 255, 511]
theorem croftlaw11_OracleAgain.tab8 : rtab .any (opsOf Try.f8 8) = croftlaw11_OracleAgain.T8 := by kernel_rfl
theorem croftlaw11_OracleAgain.bits8 : waitsOk croftlaw11_OracleAgain.T8.2 croftlaw11_OracleAgain.B8 = true := by kernel_rfl
def croftlaw11_OracleAgain.T14 : Bool × List (List Nat × List Nat) := (true, [([], []), ([], []), ([1], [1]), ([], []), ([], []), ([3, 4], [3, 4]), ([], []), ([6], [6]), ([0, 2, 5, 7], [0, 2, 5, 7]), ([8, 8, 0, 1, 2, 3, 4, 5, 6, 7, 8], [8])])
def croftlaw11_OracleAgain.B14 : List Nat := [0, 0, 2, 0, 0, 24, 0, 64, 255, 511]
theorem croftlaw11_OracleAgain.tab14 : rtab .any (opsOf Try.f8 14) = croftlaw11_OracleAgain.T14 := by kernel_rfl
theorem croftlaw11_OracleAgain.bits14 : waitsOk croftlaw11_OracleAgain.T14.2 croftlaw11_OracleAgain.B14 = true := by kernel_rfl
def croftlaw11_OracleAgain.T15 : Bool × List (List Nat × List Nat) := (true, [([], []), ([], []), ([1], [1]), ([], []), ([], []), ([3, 4], [3, 4]), ([0, 2, 5], [0, 2, 5]), ([6, 6, 0, 1, 2, 3, 4, 5, 6], [6])])
def croftlaw11_OracleAgain.B15 : List Nat := [0, 0, 2, 0, 0, 24, 63, 127]
theorem croftlaw11_OracleAgain.tab15 : rtab .any (opsOf Try.f8 15) = croftlaw11_OracleAgain.T15 := by kernel_rfl
theorem croftlaw11_OracleAgain.bits15 : waitsOk croftlaw11_OracleAgain.T15.2 croftlaw11_OracleAgain.B15 = true := by kernel_rfl
set_option maxHeartbeats 8000000 in
set_option maxRecDepth 100000 in
theorem croftlaw11_OracleAgain.calls (k : Nat) (a0_0 : Int) (a0_1 : Int) (a0_2 : Int) (a0_3 : Int) (A0_4 : Option Addr) (c0_4 : Nat) (l0_4 : List (S49)) (a0_5 : Int) (a0_6 : Bool) (A1 : Option Addr) (c1 : Nat) (l1 : List (S49)) (r : Bool) (w : World) (hr0_4 : Kd.C k49 w A0_4 l0_4.length l0_4) (hc0_4 : l0_4.length ≤ c0_4) (hr1 : Kd.C k49 w A1 l1.length l1) (hc1 : l1.length ≤ c1) (h : croftlaw11_OracleAgain.f k a0_0 a0_1 a0_2 a0_3 l0_4 a0_5 a0_6 l1 = some r) :
  Calls Try.prog 8 #[.agg #[.int .u64 a0_0, .int .i64 a0_1, .int .i64 a0_2, .int .i64 a0_3, .slice A0_4 l0_4.length c0_4, .int .u64 a0_5, .bool a0_6], .slice A1 l1.length c1] w fun e w' => e = .returned (.bool r) ∧ Below w.heap.size w w' := by
 have hu44 := Try.underlying44
 have hu24 := Try.underlying24
 have hu29 := Try.underlying29
 have hu55 := Try.underlying55
 have HR0_4 := Aside0.mk hr0_4
 have HC0_4 := Aside0.mk hc0_4
 clear hr0_4 hc0_4
 have HR1 := Aside0.mk hr1
 have HC1 := Aside0.mk hc1
 clear hr1 hc1
 have HB := Aside0.mk (Below.refl w.heap.size w)
 have H : ((croftlaw11_awake.f k).bind fun t204 => (if t204 = true then (if (l1.length : Int) = (l0_4.length : Int) then ((croftlaw11_blocks.f k l0_4).bind fun t205 => ((croftlaw11_config.f a0_0 a0_1 a0_2).bind fun bt208 => (if 0 ≤ (l0_4.length : Int) then (if (l0_4.length : Int) ≤ (t205.length : Int) then ((oracle_NoFit.f bt208.1 bt208.2.1 bt208.2.2 a0_3 (t205.take ((l0_4.length : Int) : Int).toNat) a0_5).bind fun t216 => ((croftlaw11_blocks.f k l1).bind fun t217 => (croftlaw11_OracleAgain.l0 k l1 t205 (l0_4.length : Int) t216 t217 0 a0_0 a0_1 a0_2 a0_3 l0_4 a0_5 a0_6 bt208.1 bt208.2.1 bt208.2.2))) else (none)) else (none)))) else (some true)) else (some false))) = some r := h
 clear h
 replace H := Option.bind_eq_some_iff.mp H
 obtain ⟨t204, A30, H⟩ := H
 replace H : (if t204 = true then (if (l1.length : Int) = (l0_4.length : Int) then ((croftlaw11_blocks.f k l0_4).bind fun t205 => ((croftlaw11_config.f a0_0 a0_1 a0_2).bind fun bt208 => (if 0 ≤ (l0_4.length : Int) then (if (l0_4.length : Int) ≤ (t205.length : Int) then ((oracle_NoFit.f bt208.1 bt208.2.1 bt208.2.2 a0_3 (t205.take ((l0_4.length : Int) : Int).toNat) a0_5).bind fun t216 => ((croftlaw11_blocks.f k l1).bind fun t217 => (croftlaw11_OracleAgain.l0 k l1 t205 (l0_4.length : Int) t216 t217 0 a0_0 a0_1 a0_2 a0_3 l0_4 a0_5 a0_6 bt208.1 bt208.2.1 bt208.2.2))) else (none)) else (none)))) else (some true)) else (some false)) = some r := H
 have A3 := Aside0.mk A30
 clear A30
 by_cases c4 : t204 = true
 ·subst c4
  have H1 : (if (l1.length : Int) = (l0_4.length : Int) then ((croftlaw11_blocks.f k l0_4).bind fun t205 => ((croftlaw11_config.f a0_0 a0_1 a0_2).bind fun bt208 => (if 0 ≤ (l0_4.length : Int) then (if (l0_4.length : Int) ≤ (t205.length : Int) then ((oracle_NoFit.f bt208.1 bt208.2.1 bt208.2.2 a0_3 (t205.take ((l0_4.length : Int) : Int).toNat) a0_5).bind fun t216 => ((croftlaw11_blocks.f k l1).bind fun t217 => (croftlaw11_OracleAgain.l0 k l1 t205 (l0_4.length : Int) t216 t217 0 a0_0 a0_1 a0_2 a0_3 l0_4 a0_5 a0_6 bt208.1 bt208.2.1 bt208.2.2))) else (none)) else (none)))) else (some true)) = some r := by rw [if_pos rfl] at H; exact H
  clear H
  have H := H1
  clear H1
  by_cases c5 : (l1.length : Int) = (l0_4.length : Int)
  ·rw [if_pos c5] at H
   have c5b0 : ((l1.length : Int) == (l0_4.length : Int)) = true := beq_iff_eq.mpr c5
   have c5b1 : ((l1.length : Int) != (l0_4.length : Int)) = false := bne_eq_false_iff_eq.mpr c5
   have c5b2 : (l1.length == l0_4.length) = true := by first | simpa using c5 | (simp at c5 ⊢; omega)
   clear c5
   replace H := Option.bind_eq_some_iff.mp H
   obtain ⟨t205, A60, H⟩ := H
   replace H : ((croftlaw11_config.f a0_0 a0_1 a0_2).bind fun bt208 => (if 0 ≤ (l0_4.length : Int) then (if (l0_4.length : Int) ≤ (t205.length : Int) then ((oracle_NoFit.f bt208.1 bt208.2.1 bt208.2.2 a0_3 (t205.take ((l0_4.length : Int) : Int).toNat) a0_5).bind fun t216 => ((croftlaw11_blocks.f k l1).bind fun t217 => (croftlaw11_OracleAgain.l0 k l1 t205 (l0_4.length : Int) t216 t217 0 a0_0 a0_1 a0_2 a0_3 l0_4 a0_5 a0_6 bt208.1 bt208.2.1 bt208.2.2))) else (none)) else (none))) = some r := H
   have A6 := Aside0.mk A60
   clear A60
   replace H := Option.bind_eq_some_iff.mp H
   obtain ⟨⟨t208, t209, t210⟩, A70, H⟩ := H
   replace H : (if 0 ≤ (l0_4.length : Int) then (if (l0_4.length : Int) ≤ (t205.length : Int) then ((oracle_NoFit.f t208 t209 t210 a0_3 (t205.take ((l0_4.length : Int) : Int).toNat) a0_5).bind fun t216 => ((croftlaw11_blocks.f k l1).bind fun t217 => (croftlaw11_OracleAgain.l0 k l1 t205 (l0_4.length : Int) t216 t217 0 a0_0 a0_1 a0_2 a0_3 l0_4 a0_5 a0_6 t208 t209 t210))) else (none)) else (none)) = some r := H
   have A7 := Aside0.mk A70
   clear A70
   by_cases c8 : 0 ≤ (l0_4.length : Int)
   ·rw [if_pos c8] at H
    have c8b0 := eq_true c8
    have c8b1 : decide (0 ≤ (l0_4.length : Int)) = true := decide_eq_true c8
    clear c8
    by_cases c9 : (l0_4.length : Int) ≤ (t205.length : Int)
    ·rw [if_pos c9] at H
     have c9b0 := eq_true c9
     have c9b1 : decide ((l0_4.length : Int) ≤ (t205.length : Int)) = true := decide_eq_true c9
     clear c9
     obtain ⟨y212, hy212⟩ : ∃ y_ : List (S55), y_ = (t205.take ((l0_4.length : Int) : Int).toNat) := ⟨_, rfl⟩
     replace H : ((oracle_NoFit.f t208 t209 t210 a0_3 y212 a0_5).bind fun t216 => ((croftlaw11_blocks.f k l1).bind fun t217 => (croftlaw11_OracleAgain.l0 k l1 t205 (l0_4.length : Int) t216 t217 0 a0_0 a0_1 a0_2 a0_3 l0_4 a0_5 a0_6 t208 t209 t210))) = some r := by first | (rw [hy212]; with_reducible exact H) | (have H2_ := (Option.bind_some _ _).symm.trans H; rw [hy212]; with_reducible exact H2_) | (have H2_ := (Option.bind_some _ _).symm.trans H; with_reducible exact H2_) | with_reducible exact H | (rw [hy212]; exact H) | exact H
     have Ny212 := Aside0.mk hy212
     clear hy212
     replace H := Option.bind_eq_some_iff.mp H
     obtain ⟨t216, A100, H⟩ := H
     replace H : ((croftlaw11_blocks.f k l1).bind fun t217 => (croftlaw11_OracleAgain.l0 k l1 t205 (l0_4.length : Int) t216 t217 0 a0_0 a0_1 a0_2 a0_3 l0_4 a0_5 a0_6 t208 t209 t210)) = some r := H
     have A10 := Aside0.mk A100
     clear A100
     replace H := Option.bind_eq_some_iff.mp H
     obtain ⟨t217, A110, H⟩ := H
     replace H : (croftlaw11_OracleAgain.l0 k l1 t205 (l0_4.length : Int) t216 t217 0 a0_0 a0_1 a0_2 a0_3 l0_4 a0_5 a0_6 t208 t209 t210) = some r := H
     have A11 := Aside0.mk A110
     clear A110
     have H' := Aside0.mk H
     clear H
     go_enter Try.func8, Try.ntmps8
     try go_wp2_with (first | ((with_reducible refine gate_dst (N := 2) rfl ?_); refine box_event ?hg (N := 2) ?hd (cs := #[.int .u64 a0_0, .int .i64 a0_1, .int .i64 a0_2, .int .i64 a0_3, .slice A0_4 l0_4.length c0_4, .int .u64 a0_5, .bool a0_6]) (t := 44) ?hr ?_; (case hd => rfl); (case hg => rfl); (case hr => first | (go_simp; done) | (go_simp; rfl)); intro gb203 hg w12 hbox hb; have n0_ := Aside0.mk (below_step (by repeat (first | (with_reducible first | exact HB.out | apply below_alloc | apply pw_below_drewN | apply below_drew1) | exact HB.out)) hb); have n1_ := Aside0.mk (hbox); have n2_ := Aside0.mk ((by rw [hg]; exact (below_size (by repeat (first | (with_reducible first | exact HB.out | apply below_alloc | apply pw_below_drewN | apply below_drew1) | exact HB.out))) : w.heap.size ≤ gb203)); have n3_ := Aside0.mk ((by rw [hg]; exact (below_size (by repeat (first | (with_reducible first | exact HB.out | apply below_alloc | apply pw_below_drewN | apply below_drew1) | exact HB.out))) : w.heap.size ≤ gb203)); clear HB; have HB := n0_; have BK203 := n1_; have GW203 := n2_; have GE203 := n3_; clear n0_ n1_ n2_ n3_; clear hb hbox hg) | ((with_reducible refine gate_callee (f := 18) rfl ?_); refine goesL_ (some 13) rfl rfl Try.func18 (by kernel_rfl) rfl #[] rfl (by (try simp only [List.map_toArray, List.map_cons, List.map_nil]); first | done | rfl | (simp only [List.length_drop, List.length_take]; rfl)) ?_; (with_reducible refine (croftlaw11_awake.calls k  true _ A3.out).mono ?_); rintro e w13 ⟨rfl, hb⟩; refine ⟨_, rfl, ?_⟩; have n0_ := Aside0.mk (blk_below (g := gb203) (o := .cells #[.int .u64 a0_0, .int .i64 a0_1, .int .i64 a0_2, .int .i64 a0_3, .slice A0_4 l0_4.length c0_4, .int .u64 a0_5, .bool a0_6] 44 (0, 0)) (by (with_reducible repeat (first | refine blk_drewN ?_ _ | refine blk_drew ?_ | refine blk_alloc ?_ _)); exact BK203.out) hb); have n1_ := Aside0.mk (below_step (by repeat (first | (with_reducible first | exact HB.out | apply below_alloc | apply pw_below_drewN | apply below_drew1 | refine below_set ?_ GE203.out) | exact HB.out)) hb); clear BK203; clear HB; have BK203 := n0_; have HB := n1_; clear n0_ n1_; (try clear hb); (try clear hb2); (try clear hk); (try clear hi); have hcz14_0 : w13.cell? ⟨gb203, 0, none⟩ = some (.int .u64 a0_0) := (blk_cell BK203.out 0).trans rfl; have hcz14_1 : w13.cell? ⟨gb203, 1, none⟩ = some (.int .i64 a0_1) := (blk_cell BK203.out 1).trans rfl; have hcz14_2 : w13.cell? ⟨gb203, 2, none⟩ = some (.int .i64 a0_2) := (blk_cell BK203.out 2).trans rfl; have hcz14_3 : w13.cell? ⟨gb203, 3, none⟩ = some (.int .i64 a0_3) := (blk_cell BK203.out 3).trans rfl; have hcz14_4 : w13.cell? ⟨gb203, 4, none⟩ = some (.slice A0_4 l0_4.length c0_4) := (blk_cell BK203.out 4).trans rfl; have hcz14_5 : w13.cell? ⟨gb203, 5, none⟩ = some (.int .u64 a0_5) := (blk_cell BK203.out 5).trans rfl; have hcz14_6 : w13.cell? ⟨gb203, 6, none⟩ = some (.bool a0_6) := (blk_cell BK203.out 6).trans rfl; have hfz14_0 := blk_frozen BK203.out 0; have hfz14_1 := blk_frozen BK203.out 1; have hfz14_2 := blk_frozen BK203.out 2; have hfz14_3 := blk_frozen BK203.out 3; have hfz14_4 := blk_frozen BK203.out 4; have hfz14_5 := blk_frozen BK203.out 5; have hfz14_6 := blk_frozen BK203.out 6) | ((with_reducible refine gate_callee (f := 13) rfl ?_); refine goesL_ (some 23) rfl rfl Try.func13 (by kernel_rfl) rfl #[.slice A0_4 l0_4.length c0_4] rfl (by (try simp only [List.map_toArray, List.map_cons, List.map_nil]); first | done | rfl | (simp only [List.length_drop, List.length_take]; rfl)) ?_; (with_reducible refine (croftlaw11_blocks.calls k _ _ l0_4 t205 _ ?side1 ?side2 A6.out).mono ?_); (case side1 => repeat (first | exact (Kd.C_below HR0_4.out HB.out) | (with_reducible refine Kd.C_alloc ?_ _) | (with_reducible refine Kd.C_drewN ?_ _) | (with_reducible refine Kd.C_drew ?_))); (case side2 => exact HC0_4.out); rintro e w15 ⟨v206, rfl, ho0, hb⟩; refine ⟨_, rfl, ?_⟩; have n0_ := Aside0.mk (Kd.R_lower ho0 (below_size (by repeat (first | (with_reducible first | exact HB.out | apply below_alloc | apply pw_below_drewN | apply below_drew1 | refine below_set ?_ GE203.out) | exact HB.out)))); have n1_ := Aside0.mk (blk_below (g := gb203) (o := .cells #[.int .u64 a0_0, .int .i64 a0_1, .int .i64 a0_2, .int .i64 a0_3, .slice A0_4 l0_4.length c0_4, .int .u64 a0_5, .bool a0_6] 44 (0, 0)) (by (with_reducible repeat (first | refine blk_drewN ?_ _ | refine blk_drew ?_ | refine blk_alloc ?_ _)); exact BK203.out) hb); have n2_ := Aside0.mk (below_step (by repeat (first | (with_reducible first | exact HB.out | apply below_alloc | apply pw_below_drewN | apply below_drew1 | refine below_set ?_ GE203.out) | exact HB.out)) hb); clear BK203; clear HB; have HO207 := n0_; have BK203 := n1_; have HB := n2_; clear n0_ n1_ n2_; (try clear hb); (try clear hb2); (try clear hk); (try clear hi); (try clear ho0); have hcz16_0 : w15.cell? ⟨gb203, 0, none⟩ = some (.int .u64 a0_0) := (blk_cell BK203.out 0).trans rfl; have hcz16_1 : w15.cell? ⟨gb203, 1, none⟩ = some (.int .i64 a0_1) := (blk_cell BK203.out 1).trans rfl; have hcz16_2 : w15.cell? ⟨gb203, 2, none⟩ = some (.int .i64 a0_2) := (blk_cell BK203.out 2).trans rfl; have hcz16_3 : w15.cell? ⟨gb203, 3, none⟩ = some (.int .i64 a0_3) := (blk_cell BK203.out 3).trans rfl; have hcz16_4 : w15.cell? ⟨gb203, 4, none⟩ = some (.slice A0_4 l0_4.length c0_4) := (blk_cell BK203.out 4).trans rfl; have hcz16_5 : w15.cell? ⟨gb203, 5, none⟩ = some (.int .u64 a0_5) := (blk_cell BK203.out 5).trans rfl; have hcz16_6 : w15.cell? ⟨gb203, 6, none⟩ = some (.bool a0_6) := (blk_cell BK203.out 6).trans rfl; have hfz16_0 := blk_frozen BK203.out 0; have hfz16_1 := blk_frozen BK203.out 1; have hfz16_2 := blk_frozen BK203.out 2; have hfz16_3 := blk_frozen BK203.out 3; have hfz16_4 := blk_frozen BK203.out 4; have hfz16_5 := blk_frozen BK203.out 5; have hfz16_6 := blk_frozen BK203.out 6) | ((with_reducible refine gate_callee (f := 15) rfl ?_); refine goesL_ (some 29) rfl rfl Try.func15 (by kernel_rfl) rfl #[.agg #[.int .u64 a0_0, .int .i64 a0_1, .int .i64 a0_2]] rfl (by (try simp only [List.map_toArray, List.map_cons, List.map_nil]); first | done | rfl | (simp only [List.length_drop, List.length_take]; rfl)) ?_; (with_reducible refine (croftlaw11_config.calls a0_0 a0_1 a0_2 t208 t209 t210 _ A7.out).mono ?_); rintro e w17 ⟨rfl, hb⟩; refine ⟨_, rfl, ?_⟩; have n0_ := Aside0.mk (Kd.R_below (by (with_reducible repeat (first | apply Kd.R_alloc | apply Kd.R_drewN | apply Kd.R_drew)); exact HO207.out) hb); have n1_ := Aside0.mk (blk_below (g := gb203) (o := .cells #[.int .u64 a0_0, .int .i64 a0_1, .int .i64 a0_2, .int .i64 a0_3, .slice A0_4 l0_4.length c0_4, .int .u64 a0_5, .bool a0_6] 44 (0, 0)) (by (with_reducible repeat (first | refine blk_drewN ?_ _ | refine blk_drew ?_ | refine blk_alloc ?_ _)); exact BK203.out) hb); have n2_ := Aside0.mk (below_step (by repeat (first | (with_reducible first | exact HB.out | apply below_alloc | apply pw_below_drewN | apply below_drew1 | refine below_set ?_ GE203.out) | exact HB.out)) hb); clear HO207; clear BK203; clear HB; have HO207 := n0_; have BK203 := n1_; have HB := n2_; clear n0_ n1_ n2_; (try clear hb); (try clear hb2); (try clear hk); (try clear hi)) | ((with_reducible refine gate_dst (N := 7) rfl ?_); refine box_event ?hg (N := 7) ?hd (cs := #[.int .u64 0, .int .i64 0, .int .i64 0]) (t := 29) ?hr ?_; (case hd => rfl); (case hg => rfl); (case hr => first | (go_simp; done) | (go_simp; rfl)); intro gb211 hg w18 hbox hb; have n0_ := Aside0.mk (Kd.R_below (by (with_reducible repeat (first | apply Kd.R_alloc | apply Kd.R_drewN | apply Kd.R_drew)); exact HO207.out) hb); have n1_ := Aside0.mk (blk_below (g := gb203) (o := .cells #[.int .u64 a0_0, .int .i64 a0_1, .int .i64 a0_2, .int .i64 a0_3, .slice A0_4 l0_4.length c0_4, .int .u64 a0_5, .bool a0_6] 44 (0, 0)) (by (with_reducible repeat (first | refine blk_drewN ?_ _ | refine blk_drew ?_ | refine blk_alloc ?_ _)); exact BK203.out) hb); have n2_ := Aside0.mk (below_step (by repeat (first | (with_reducible first | exact HB.out | apply below_alloc | apply pw_below_drewN | apply below_drew1 | refine below_set ?_ GE203.out) | exact HB.out)) hb); have n3_ := Aside0.mk (hbox); have n4_ := Aside0.mk ((by rw [hg]; exact (below_size (by repeat (first | (with_reducible first | exact HB.out | apply below_alloc | apply pw_below_drewN | apply below_drew1 | refine below_set ?_ GE203.out) | exact HB.out))) : w.heap.size ≤ gb211)); have n5_ := Aside0.mk ((by rw [hg]; exact (below_size (by repeat (first | (with_reducible first | exact HB.out | apply below_alloc | apply pw_below_drewN | apply below_drew1 | refine below_set ?_ GE203.out) | exact HB.out))) : w.heap.size ≤ gb211)); have n6_ := Aside0.mk ((by rw [hg]; exact Nat.ne_of_lt (blk_lt (g := gb203) (o := .cells #[.int .u64 a0_0, .int .i64 a0_1, .int .i64 a0_2, .int .i64 a0_3, .slice A0_4 l0_4.length c0_4, .int .u64 a0_5, .bool a0_6] 44 (0, 0)) (by (with_reducible repeat (first | refine blk_drewN ?_ _ | refine blk_drew ?_ | refine blk_alloc ?_ _)); exact BK203.out)) : gb203 ≠ gb211)); have n7_ := Aside0.mk ((by rw [hg]; exact Nat.ne_of_gt (blk_lt (g := gb203) (o := .cells #[.int .u64 a0_0, .int .i64 a0_1, .int .i64 a0_2, .int .i64 a0_3, .slice A0_4 l0_4.length c0_4, .int .u64 a0_5, .bool a0_6] 44 (0, 0)) (by (with_reducible repeat (first | refine blk_drewN ?_ _ | refine blk_drew ?_ | refine blk_alloc ?_ _)); exact BK203.out)) : gb211 ≠ gb203)); clear HO207; clear BK203; clear HB; have HO207 := n0_; have BK203 := n1_; have HB := n2_; have BK211 := n3_; have GW211 := n4_; have GE211 := n5_; have NB203_211 := n6_; have NB211_203 := n7_; clear n0_ n1_ n2_ n3_ n4_ n5_ n6_ n7_; clear hb hbox hg; have hnb19 := NB211_203.out; have hnc19 := NB203_211.out; have hcz20_0 : w18.cell? ⟨gb211, 0, none⟩ = some (.int .u64 0) := (blk_cell BK211.out 0).trans rfl; have hcz20_1 : w18.cell? ⟨gb211, 1, none⟩ = some (.int .i64 0) := (blk_cell BK211.out 1).trans rfl; have hcz20_2 : w18.cell? ⟨gb211, 2, none⟩ = some (.int .i64 0) := (blk_cell BK211.out 2).trans rfl; have hfz20_0 := blk_frozen BK211.out 0; have hfz20_1 := blk_frozen BK211.out 1; have hfz20_2 := blk_frozen BK211.out 2))
     have n0_ : Aside0 (Kd.R k55 55 (((w18.setCell ⟨gb211, 0, none⟩ (.int .u64 t208)).setCell ⟨gb211, 1, none⟩ (.int .i64 t209)).setCell ⟨gb211, 2, none⟩ (.int .i64 t210)) w.heap.size (fun _ => True) v206 t205) := ⟨by (with_reducible repeat (first | apply Kd.R_alloc | apply Kd.R_drewN | apply Kd.R_drew)); exact Kd.R_mono (Kd.R_far (p := ⟨gb211, 2, none⟩) (Kd.R_far (p := ⟨gb211, 1, none⟩) (Kd.R_far (p := ⟨gb211, 0, none⟩) (Kd.R_types HO207.out BK211.out (by decide)) (fun _ hk => hk.2) (.int .u64 t208)) (fun _ hk => hk.2) (.int .i64 t209)) (fun _ hk => hk.2) (.int .i64 t210)) (fun _ hk => trivial)⟩
     have n1_ : Aside0 ((((w18.setCell ⟨gb211, 0, none⟩ (.int .u64 t208)).setCell ⟨gb211, 1, none⟩ (.int .i64 t209)).setCell ⟨gb211, 2, none⟩ (.int .i64 t210)).heap[gb203]? = some (.cells #[.int .u64 a0_0, .int .i64 a0_1, .int .i64 a0_2, .int .i64 a0_3, .slice A0_4 l0_4.length c0_4, .int .u64 a0_5, .bool a0_6] 44 (0, 0))) := ⟨by (with_reducible repeat (first | refine blk_drewN ?_ _ | refine blk_drew ?_ | refine blk_alloc ?_ _)); refine blk_far ?_ NB203_211.out _; (with_reducible repeat (first | refine blk_drewN ?_ _ | refine blk_drew ?_ | refine blk_alloc ?_ _)); refine blk_far ?_ NB203_211.out _; (with_reducible repeat (first | refine blk_drewN ?_ _ | refine blk_drew ?_ | refine blk_alloc ?_ _)); refine blk_far ?_ NB203_211.out _; (with_reducible repeat (first | refine blk_drewN ?_ _ | refine blk_drew ?_ | refine blk_alloc ?_ _)); exact BK203.out⟩
     have n2_ : Aside0 ((((w18.setCell ⟨gb211, 0, none⟩ (.int .u64 t208)).setCell ⟨gb211, 1, none⟩ (.int .i64 t209)).setCell ⟨gb211, 2, none⟩ (.int .i64 t210)).heap[gb211]? = some (.cells #[.int .u64 t208, .int .i64 t209, .int .i64 t210] 29 (0, 0))) := ⟨by (with_reducible repeat (first | refine blk_drewN ?_ _ | refine blk_drew ?_ | refine blk_alloc ?_ _)); refine blk_put (cs := #[.int .u64 t208, .int .i64 t209, .int .i64 0]) ?_ 2 _ rfl; (with_reducible repeat (first | refine blk_drewN ?_ _ | refine blk_drew ?_ | refine blk_alloc ?_ _)); refine blk_put (cs := #[.int .u64 t208, .int .i64 0, .int .i64 0]) ?_ 1 _ rfl; (with_reducible repeat (first | refine blk_drewN ?_ _ | refine blk_drew ?_ | refine blk_alloc ?_ _)); refine blk_put (cs := #[.int .u64 0, .int .i64 0, .int .i64 0]) ?_ 0 _ rfl; (with_reducible repeat (first | refine blk_drewN ?_ _ | refine blk_drew ?_ | refine blk_alloc ?_ _)); exact BK211.out⟩
     have n3_ : Aside0 (Below w.heap.size w (((w18.setCell ⟨gb211, 0, none⟩ (.int .u64 t208)).setCell ⟨gb211, 1, none⟩ (.int .i64 t209)).setCell ⟨gb211, 2, none⟩ (.int .i64 t210))) := ⟨by repeat (first | (with_reducible first | exact HB.out | apply below_alloc | apply pw_below_drewN | apply below_drew1 | refine below_set ?_ GE203.out | refine below_set ?_ GE211.out) | exact HB.out)⟩
     (try clear HO207)
     (try clear BK203)
     (try clear BK211)
     (try clear HB)
     generalize (((w18.setCell ⟨gb211, 0, none⟩ (.int .u64 t208)).setCell ⟨gb211, 1, none⟩ (.int .i64 t209)).setCell ⟨gb211, 2, none⟩ (.int .i64 t210)) = w21 at n0_ n1_ n2_ n3_ ⊢
     have HO207 := n0_
     have BK203 := n1_
     have BK211 := n2_
     have HB := n3_
     clear n0_ n1_ n2_ n3_
     have n0_ := Aside0.mk (Kd.R_drew HO207.out)
     have n1_ := Aside0.mk (blk_drew BK203.out)
     have n2_ := Aside0.mk (blk_drew BK211.out)
     have n3_ := Aside0.mk (below_drew1 HB.out)
     clear HO207
     clear BK203
     clear BK211
     clear HB
     have HO207 := n0_
     have BK203 := n1_
     have BK211 := n2_
     have HB := n3_
     clear n0_ n1_ n2_ n3_
     obtain ⟨Ao24, co24, eo24⟩ := Kd.R_slice HO207.out
     (first | subst eo24 | (injection eo24 with f1_ f2_ f3_; have f4_ := f1_.symm; have f5_ := f3_.symm; clear f1_ f2_ f3_; subst f4_; subst f5_))
     have q23 : ((l0_4.length : Int) : Int) ≤ ((t205.length : Int) : Int) := of_decide_eq_true (by first | (with_reducible assumption) | assumption)
     obtain ⟨i023, hi023, _, hsz23, _⟩ := info_parts info55
     have hroom23 : t205.length ≤ co24 := (Kd.R_reads' HO207.out).2.1
     have hC23 : Kd.C k55 _ Ao24 t205.length t205 := (Kd.R_reads' HO207.out).2.2
     have hcut23 := cut_to (P := Try.prog) 26 55 .i64 Try.underlying26 hi023 Ao24 t205.length co24 (l0_4.length : Int) (of_decide_eq_true (by first | (with_reducible assumption) | assumption)) q23 hroom23
     have hr23 := Kd.C_take (m := ((l0_4.length : Int) : Int).toNat) hC23 (by omega)
     have hy23 : y212.length = ((l0_4.length : Int) : Int).toNat := (by rw [Ny212.out, List.length_take]; omega)
     rw [← Ny212.out] at hr23
     rw [← hy23] at hcut23
     have HR215 := Aside0.mk hr23
     have HC215 := Aside0.mk (show y212.length ≤ co24 from by omega)
     clear hr23 hC23 hroom23 hi023 hsz23
     have KY23 := Aside0.mk hy23
     clear hy23
     have KL23 := Aside0.mk (show ((l0_4.length : Int) : Int).toNat ≤ t205.length from by omega)
     replace q23 := eq_true q23
     refine start_ (n := 10) (S := fun w' => w'.cell? ⟨gb211, 0, none⟩ = some (.int .u64 t208) ∧ w'.cell? ⟨gb211, 1, none⟩ = some (.int .i64 t209) ∧ w'.cell? ⟨gb211, 2, none⟩ = some (.int .i64 t210) ∧ w'.cell? ⟨gb203, 0, none⟩ = some (.int .u64 a0_0) ∧ w'.cell? ⟨gb203, 1, none⟩ = some (.int .i64 a0_1) ∧ w'.cell? ⟨gb203, 2, none⟩ = some (.int .i64 a0_2) ∧ w'.cell? ⟨gb203, 3, none⟩ = some (.int .i64 a0_3) ∧ w'.cell? ⟨gb203, 4, none⟩ = some (.slice A0_4 l0_4.length c0_4) ∧ w'.cell? ⟨gb203, 5, none⟩ = some (.int .u64 a0_5) ∧ w'.cell? ⟨gb203, 6, none⟩ = some (.bool a0_6)) (ds := []) #[F,F,F,F,F,F,F,F,F,F] (by kernel_rfl) rfl rfl ⟨(blk_cell BK211.out 0).trans rfl, (blk_cell BK211.out 1).trans rfl, (blk_cell BK211.out 2).trans rfl, (blk_cell BK203.out 0).trans rfl, (blk_cell BK203.out 1).trans rfl, (blk_cell BK203.out 2).trans rfl, (blk_cell BK203.out 3).trans rfl, (blk_cell BK203.out 4).trans rfl, (blk_cell BK203.out 5).trans rfl, (blk_cell BK203.out 6).trans rfl⟩ (fun hHeld => ?_); refine with_tabW croftlaw11_OracleAgain.tab8 croftlaw11_OracleAgain.bits8 (fun HT_ HW_ => ?_)
     generalize w21.drew = w22 at HO207 BK203 BK211 HB HR215 hHeld ⊢
     refine pure_ (i := 1) (N := some 31) (v := ?_) (a' := ?_) #[F,T,F,F,F,F,F,F,F,F] rfl rfl (any_of HT_.out (by kernel_rfl)) (fun _ _ _ h => h) (Or.inl ⟨by rfl, ?_⟩) ?_ ?_
     rotate_left
     ·intro w'
      go_simp
      with_reducible rfl
     rotate_left
     ·simp only [Act.put, Sa, Sb, Sc, i64_w, i32_w]
      rfl
     refine pure_ (i := 3) (N := some 33) (v := ?_) (a' := ?_) #[F,T,F,T,F,F,F,F,F,F] rfl rfl (any_of HT_.out (by kernel_rfl)) (fun _ _ _ h => h) (Or.inl ⟨by rfl, ?_⟩) ?_ ?_
     rotate_left
     ·intro w'
      go_simp
      with_reducible rfl
     rotate_left
     ·simp only [Act.put, Sa, Sb, Sc, i64_w, i32_w]
      rfl
     refine pure_ (i := 4) (N := some 34) (v := ?_) (a' := ?_) #[F,T,F,T,T,F,F,F,F,F] rfl rfl (any_of HT_.out (by kernel_rfl)) (fun _ _ _ h => h) (Or.inl ⟨by rfl, ?_⟩) ?_ ?_
     rotate_left
     ·intro w'
      go_simp
      with_reducible rfl
     rotate_left
     ·simp only [Act.put, Sa, Sb, Sc, i64_w, i32_w]
      rfl
     refine pure_ (i := 5) (N := some 35) (v := ?_) (a' := ?_) #[F,T,F,T,T,T,F,F,F,F] rfl rfl (any_of HT_.out (by kernel_rfl)) (fun _ _ _ h => h) (Or.inl ⟨by rfl, ?_⟩) ?_ ?_
     rotate_left
     ·intro w'
      go_simp
      with_reducible rfl
     rotate_left
     ·simp only [Act.put, Sa, Sb, Sc, i64_w, i32_w]
      rfl
     refine pure_ (i := 6) (N := some 36) (v := ?_) (a' := ?_) #[F,T,F,T,T,T,T,F,F,F] rfl rfl (any_of HT_.out (by kernel_rfl)) (fun _ _ _ h => h) (Or.inl ⟨by rfl, ?_⟩) ?_ ?_
     rotate_left
     ·intro w'
      go_simp
      with_reducible rfl
     rotate_left
     ·simp only [Act.put, Sa, Sb, Sc, i64_w, i32_w]
      rfl
     refine take_ (i := 0) (N := some 30) (v := ?_) (a' := ?_) #[T,T,F,T,T,T,T,F,F,F] rfl rfl (take_ofW HT_.out HW_.out (by kernel_rfl)) (fun _ _ _ h => h) (Or.inl ⟨by rfl, ?_⟩) hHeld ?_ ?_
     rotate_left
     ·rintro w' ⟨s0, s1, s2, s3, s4, s5, s6, s7, s8, s9⟩
      go_simp
      with_reducible rfl
     rotate_left
     ·simp only [Act.put, Sa, Sb, Sc, i64_w, i32_w]
      rfl
     refine take_ (i := 2) (N := some 32) (v := ?_) (a' := ?_) #[T,T,T,T,T,T,T,F,F,F] rfl rfl (take_ofW HT_.out HW_.out (by kernel_rfl)) (fun _ _ _ h => h) (Or.inl ⟨by rfl, ?_⟩) hHeld ?_ ?_
     rotate_left
     ·rintro w' ⟨s0, s1, s2, s3, s4, s5, s6, s7, s8, s9⟩
      go_simp
      with_reducible rfl
     rotate_left
     ·simp only [Act.put, Sa, Sb, Sc, i64_w, i32_w]
      rfl
     refine take_ (i := 7) (N := some 37) (v := ?_) (a' := ?_) #[T,T,T,T,T,T,T,T,F,F] rfl rfl (take_ofW HT_.out HW_.out (by kernel_rfl)) (fun _ _ _ h => h) (Or.inl ⟨by rfl, ?_⟩) hHeld ?_ ?_
     rotate_left
     ·rintro w' ⟨s0, s1, s2, s3, s4, s5, s6, s7, s8, s9⟩
      go_simp
      with_reducible rfl
     rotate_left
     ·simp only [Act.put, Sa, Sb, Sc, i64_w, i32_w]
      rfl
     refine one_ (i := 8) (N := some 38) #[T,T,T,T,T,T,T,T,T,F] rfl rfl (one_of HT_.out (by kernel_rfl)) (by decide) (fun K hK => ?_)
     refine goes_ Try.func23 (by kernel_rfl) rfl #[.agg #[.int .u64 t208, .int .i64 t209, .int .i64 t210], .int .i64 a0_3, .slice Ao24 y212.length co24, .int .u64 a0_5] (by rfl) rfl rfl (by (try simp only [List.map_toArray, List.map_cons, List.map_nil]); first | done | rfl | (simp only [List.length_drop, List.length_take]; rfl)) ?_
     with_reducible refine (oracle_NoFit.calls t208 t209 t210 a0_3 _ _ y212 a0_5 t216 _ ?side1 ?side2 A10.out).mono ?_
     (case side1 => repeat (first | exact (by repeat (first | (with_reducible exact HR215.out) | (with_reducible refine Kd.C_alloc ?_ _) | (with_reducible refine Kd.C_drewN ?_ _) | (with_reducible refine Kd.C_drew ?_) | exact HR215.out)) | (with_reducible refine Kd.C_alloc ?_ _) | (with_reducible refine Kd.C_drewN ?_ _) | (with_reducible refine Kd.C_drew ?_)))
     (case side2 => exact HC215.out)
     rintro e w25 ⟨rfl, hb⟩
     refine ⟨_, rfl, ?_⟩
     have n0_ := Aside0.mk (Kd.R_below (by (with_reducible repeat (first | apply Kd.R_alloc | apply Kd.R_drewN | apply Kd.R_drew)); exact HO207.out) hb)
     have n1_ := Aside0.mk (blk_below (g := gb203) (o := .cells #[.int .u64 a0_0, .int .i64 a0_1, .int .i64 a0_2, .int .i64 a0_3, .slice A0_4 l0_4.length c0_4, .int .u64 a0_5, .bool a0_6] 44 (0, 0)) (by (with_reducible repeat (first | refine blk_drewN ?_ _ | refine blk_drew ?_ | refine blk_alloc ?_ _)); exact BK203.out) hb)
     have n2_ := Aside0.mk (blk_below (g := gb211) (o := .cells #[.int .u64 t208, .int .i64 t209, .int .i64 t210] 29 (0, 0)) (by (with_reducible repeat (first | refine blk_drewN ?_ _ | refine blk_drew ?_ | refine blk_alloc ?_ _)); exact BK211.out) hb)
     have n3_ := Aside0.mk (Kd.C_below (by repeat (first | (with_reducible exact HR215.out) | (with_reducible refine Kd.C_alloc ?_ _) | (with_reducible refine Kd.C_drewN ?_ _) | (with_reducible refine Kd.C_drew ?_) | exact HR215.out)) hb)
     have n4_ := Aside0.mk (below_step (by repeat (first | (with_reducible first | exact HB.out | apply below_alloc | apply pw_below_drewN | apply below_drew1 | refine below_set ?_ GE203.out | refine below_set ?_ GE211.out) | exact HB.out)) hb)
     clear HO207
     clear BK203
     clear BK211
     clear HR215
     clear HB
     have HO207 := n0_
     have BK203 := n1_
     have BK211 := n2_
     have HR215 := n3_
     have HB := n4_
     clear n0_ n1_ n2_ n3_ n4_
     (try clear hb)
     (try clear hb2)
     (try clear hk)
     (try clear hi)
     refine hK.out _ _ ⟨(blk_cell BK211.out 0).trans rfl, (blk_cell BK211.out 1).trans rfl, (blk_cell BK211.out 2).trans rfl, (blk_cell BK203.out 0).trans rfl, (blk_cell BK203.out 1).trans rfl, (blk_cell BK203.out 2).trans rfl, (blk_cell BK203.out 3).trans rfl, (blk_cell BK203.out 4).trans rfl, (blk_cell BK203.out 5).trans rfl, (blk_cell BK203.out 6).trans rfl⟩ (fun hHeld => ?_)
     clear hK K
     refine norm_ (a' := ?_) ?_ ?_
     rotate_left
     ·show Act.put _ (some 38) _ = _
      simp only [Act.put, Sa, Sb, Sc, i64_w, i32_w]
      rfl
     refine pure_ (i := 9) (N := some 8) (v := ?_) (a' := ?_) #[T,T,T,T,T,T,T,T,T,T] rfl rfl (any_of HT_.out (by kernel_rfl)) (fun _ _ _ h => h) (Or.inl ⟨by rfl, ?_⟩) ?_ ?_
     rotate_left
     ·intro w'
      go_simp
      with_reducible rfl
     rotate_left
     ·simp only [Act.put, Sa, Sb, Sc, i64_w, i32_w]
      rfl
     refine done_ (done_of HT_.out (by kernel_rfl)) ?_
     try go_wp2_with (first | ((with_reducible refine gate_callee (f := 13) rfl ?_); refine goesL_ (some 40) rfl rfl Try.func13 (by kernel_rfl) rfl #[.slice A1 l1.length c1] rfl (by (try simp only [List.map_toArray, List.map_cons, List.map_nil]); first | done | rfl | (simp only [List.length_drop, List.length_take]; rfl)) ?_; (with_reducible refine (croftlaw11_blocks.calls k _ _ l1 t217 _ ?side1 ?side2 A11.out).mono ?_); (case side1 => repeat (first | exact (Kd.C_below HR1.out HB.out) | (with_reducible refine Kd.C_alloc ?_ _) | (with_reducible refine Kd.C_drewN ?_ _) | (with_reducible refine Kd.C_drew ?_))); (case side2 => exact HC1.out); rintro e w26 ⟨v218, rfl, ho0, hb⟩; refine ⟨_, rfl, ?_⟩; have n0_ := Aside0.mk (Kd.R_elder' (by (with_reducible repeat (first | apply Kd.R_alloc | apply Kd.R_drewN | apply Kd.R_drew)); exact HO207.out) (Kd.R_base ho0) hb); have n1_ := Aside0.mk (Kd.R_lower (Kd.R_new' ho0 (Kd.R_lt (by (with_reducible repeat (first | apply Kd.R_alloc | apply Kd.R_drewN | apply Kd.R_drew)); exact HO207.out))) (below_size (by repeat (first | (with_reducible first | exact HB.out | apply below_alloc | apply pw_below_drewN | apply below_drew1 | refine below_set ?_ GE203.out | refine below_set ?_ GE211.out) | exact HB.out)))); have n2_ := Aside0.mk (blk_below (g := gb203) (o := .cells #[.int .u64 a0_0, .int .i64 a0_1, .int .i64 a0_2, .int .i64 a0_3, .slice A0_4 l0_4.length c0_4, .int .u64 a0_5, .bool a0_6] 44 (0, 0)) (by (with_reducible repeat (first | refine blk_drewN ?_ _ | refine blk_drew ?_ | refine blk_alloc ?_ _)); exact BK203.out) hb); have n3_ := Aside0.mk (blk_below (g := gb211) (o := .cells #[.int .u64 t208, .int .i64 t209, .int .i64 t210] 29 (0, 0)) (by (with_reducible repeat (first | refine blk_drewN ?_ _ | refine blk_drew ?_ | refine blk_alloc ?_ _)); exact BK211.out) hb); have n4_ := Aside0.mk (Kd.C_below (by repeat (first | (with_reducible exact HR215.out) | (with_reducible refine Kd.C_alloc ?_ _) | (with_reducible refine Kd.C_drewN ?_ _) | (with_reducible refine Kd.C_drew ?_) | exact HR215.out)) hb); have n5_ := Aside0.mk (below_step (by repeat (first | (with_reducible first | exact HB.out | apply below_alloc | apply pw_below_drewN | apply below_drew1 | refine below_set ?_ GE203.out | refine below_set ?_ GE211.out) | exact HB.out)) hb); clear HO207; clear BK203; clear BK211; clear HR215; clear HB; have HO207 := n0_; have HO219 := n1_; have BK203 := n2_; have BK211 := n3_; have HR215 := n4_; have HB := n5_; clear n0_ n1_ n2_ n3_ n4_ n5_; (try clear hb); (try clear hb2); (try clear hk); (try clear hi); (try clear ho0)))
     go_loopg [10] k (fun kq v10 w' => ∃ (x5_1 : List (S55)) (x10_1 : Int), v10 = .int .i64 x10_1 ∧ Aside0 (croftlaw11_OracleAgain.l0 kq l1 x5_1 (l0_4.length : Int) t216 t217 x10_1 a0_0 a0_1 a0_2 a0_3 l0_4 a0_5 a0_6 t208 t209 t210 = some r) ∧ Aside0 (kq ≤ k) ∧ Aside0 (Kd.R k55 55 w' w.heap.size (fun k_ => some k_ ≠ (v218 : Value).ownBlock) (.slice Ao24 t205.length co24) x5_1) ∧ Aside0 (Kd.R k55 55 w' w.heap.size (fun k_ => some k_ ≠ ((.slice Ao24 t205.length co24) : Value).ownBlock) v218 t217) ∧ Aside0 (w'.heap[gb203]? = some (.cells #[.int .u64 a0_0, .int .i64 a0_1, .int .i64 a0_2, .int .i64 a0_3, (.slice A0_4 l0_4.length c0_4), .int .u64 a0_5, .bool a0_6] 44 (0, 0))) ∧ Aside0 (w'.heap[gb211]? = some (.cells #[.int .u64 t208, .int .i64 t209, .int .i64 t210] 29 (0, 0))) ∧ Aside0 (Below w.heap.size w w'))
     case atStart => exact ⟨(t205), (0), (by first | rfl | (simp; done) | (simp [*]; done)), H', ⟨Nat.le_refl _⟩, ⟨by (with_reducible repeat (first | apply Kd.R_alloc | apply Kd.R_drewN | apply Kd.R_drew)); exact Kd.R_mono HO207.out (fun _ hk => hk.2)⟩, ⟨by (with_reducible repeat (first | apply Kd.R_alloc | apply Kd.R_drewN | apply Kd.R_drew)); exact Kd.R_mono HO219.out (fun _ hk => hk.2)⟩, ⟨by (with_reducible repeat (first | refine blk_drewN ?_ _ | refine blk_drew ?_ | refine blk_alloc ?_ _)); exact BK203.out⟩, ⟨by (with_reducible repeat (first | refine blk_drewN ?_ _ | refine blk_drew ?_ | refine blk_alloc ?_ _)); exact BK211.out⟩, ⟨by repeat (first | (with_reducible first | exact HB.out | apply below_alloc | apply pw_below_drewN | apply below_drew1 | refine below_set ?_ GE203.out | refine below_set ?_ GE211.out) | exact HB.out)⟩⟩
     case round =>
      clear H'
      try clear c1; try clear c2; try clear p2; try clear q2; try clear c4; try clear c5; try clear c5b0; try clear c5b1; try clear c5b2; try clear c8; try clear c8b0; try clear c8b1; try clear c9; try clear c9b0; try clear c9b1; try clear c13; try clear c15; try clear c18; try clear c19; try clear c23; try clear q23; try clear hcz14_0; try clear hcz14_1; try clear hcz14_2; try clear hcz14_3; try clear hcz14_4; try clear hcz14_5; try clear hcz14_6; try clear hcz16_0; try clear hcz16_1; try clear hcz16_2; try clear hcz16_3; try clear hcz16_4; try clear hcz16_5; try clear hcz16_6; try clear hcz20_0; try clear hcz20_1; try clear hcz20_2; try clear hfz14_0; try clear hfz14_1; try clear hfz14_2; try clear hfz14_3; try clear hfz14_4; try clear hfz14_5; try clear hfz14_6; try clear hfz16_0; try clear hfz16_1; try clear hfz16_2; try clear hfz16_3; try clear hfz16_4; try clear hfz16_5; try clear hfz16_6; try clear hfz20_0; try clear hfz20_1; try clear hfz20_2; try clear q23
      obtain ⟨x5_1, x10_1, rfl, HA, HK1, HO_5, HO_9, BK203, BK211, HB⟩ := hrel
      have hl5_1 := (Kd.R_reads' HO_5.out).1
      rw [hl5_1] at HO_5
      (try simp only [hl5_1])
      (try simp only [hl5_1] at BK203)
      (try simp only [hl5_1] at BK211)
      (try simp only [hl5_1] at HO_9)
      cases gk with
      | zero => exact absurd HA.out (by simp [croftlaw11_OracleAgain.l0])
      | succ k1 =>
       have H := HA.out
       clear HA
       simp only [croftlaw11_OracleAgain.l0] at H
       by_cases c27 : x10_1 < (l0_4.length : Int)
       ·rw [if_pos c27] at H
        have c27b0 : decide (x10_1 < (l0_4.length : Int)) = true := decide_eq_true c27
        clear c27
        by_cases c28 : 0 ≤ x10_1
        ·rw [if_pos c28] at H
         have c28b0 : decide (0 ≤ x10_1) = true := decide_eq_true c28
         clear c28
         by_cases c29 : x10_1 < (t217.length : Int)
         ·rw [if_pos c29] at H
          have c29b0 : decide (x10_1 < (t217.length : Int)) = true := decide_eq_true c29
          clear c29
          by_cases c30 : x10_1 < (x5_1.length : Int)
          ·rw [if_pos c30] at H
           have c30b0 : decide (x10_1 < (x5_1.length : Int)) = true := decide_eq_true c30
           clear c30
           obtain ⟨y221, hy221⟩ : ∃ y_ : List (S55), y_ = (x5_1.set (x10_1 : Int).toNat (⟨(rd_T55 t217 x10_1).f0, (rd_T55 t217 x10_1).f1⟩ : S55)) := ⟨_, rfl⟩
           replace H : (croftlaw11_OracleAgain.l0 k1 l1 y221 (l0_4.length : Int) t216 t217 (wrap64 (x10_1 + 1)) a0_0 a0_1 a0_2 a0_3 l0_4 a0_5 a0_6 t208 t209 t210) = some r := by first | (rw [hy221]; with_reducible exact H) | (have H2_ := (Option.bind_some _ _).symm.trans H; rw [hy221]; with_reducible exact H2_) | (have H2_ := (Option.bind_some _ _).symm.trans H; with_reducible exact H2_) | with_reducible exact H | (rw [hy221]; exact H) | exact H
           have Ny221 := Aside0.mk hy221
           clear hy221
           have H' := Aside0.mk H
           clear H
           obtain ⟨Ao32, co32, eo32⟩ := Kd.R_slice HO_9.out
           subst eo32
           have p220 : 0 ≤ (x10_1 : Int) := of_decide_eq_true (by first | (with_reducible assumption) | assumption)
           have q220 : x10_1 < (t217.length : Int) := of_decide_eq_true (by first | (with_reducible assumption) | assumption)
           obtain ⟨ad220, e220, hx220_0, hx220_1⟩ := at_T55 (Kd.R_reads' HO_9.out).2.2 x10_1 p220 q220
           cases e220
           replace p220 := eq_true p220
           replace q220 := eq_true q220
           have p31 : 0 ≤ (x10_1 : Int) := of_decide_eq_true (by first | (with_reducible assumption) | assumption)
           have q31 : (x10_1 : Int) < ((x5_1.length : Int) : Int) := of_decide_eq_true (by first | (with_reducible assumption) | assumption)
           obtain ⟨go31, co31, eo31, gb31, gl31, cl31, HG31⟩ := Kd.R_form HO_5.out (by omega)
           (first | cases eo31 | (injection eo31 with ea_ en_ ec_; (first | subst ea_ | (injection ea_ with ea_; subst ea_)); subst ec_; clear en_))
           have GB31 := Aside0.mk gb31
           have GG31 := Aside0.mk HG31
           clear gb31 gl31 HG31
           obtain ⟨ce31, hcl31, hM31, hcc31, hfr31⟩ := Kd.R_elem HO_5.out z55 (x10_1 : Int) p31 q31
           obtain rfl := k55_openM hM31
           have hx31_0 : wr.cell? ⟨go31, (x10_1 : Int).toNat * 2, none⟩ = some (.int .u64 ((rd_T55 x5_1 x10_1).f0)) := hcc31 0 _ rfl
           have hx31_1 : wr.cell? ⟨go31, (x10_1 : Int).toNat * 2 + 1, none⟩ = some (.int .u64 ((rd_T55 x5_1 x10_1).f1)) := hcc31 1 _ rfl
           have hf31_0 : wr.frozen? ⟨go31, (x10_1 : Int).toNat * 2, none⟩ = false := hfr31 0
           have hf31_1 : wr.frozen? ⟨go31, (x10_1 : Int).toNat * 2 + 1, none⟩ = false := hfr31 1
           clear hcl31 hcc31 hfr31 hM31
           replace p31 := eq_true p31
           replace q31 := eq_true q31
           have HX33 := Aside0.mk (show Kd.R k55 55 wr w.heap.size (fun k_ => some k_ ≠ (.slice (some ad220) t217.length co32 : Value).ownBlock) (.slice (some ⟨go31, 0, none⟩) x5_1.length co24) x5_1 from (by (with_reducible repeat (first | apply Kd.R_alloc | apply Kd.R_drewN | apply Kd.R_drew)); exact HO_5.out))
           obtain ⟨ce33, hcl33, hM33, hcc33, hfr33⟩ := Kd.R_elem HX33.out z55 (x10_1 : Int) (of_decide_eq_true (by first | (with_reducible assumption) | assumption)) (by have h_ : (x10_1 : Int) < ((x5_1.length : Int) : Int) := of_decide_eq_true (by first | (with_reducible assumption) | assumption); first | exact h_ | (have e_ := (Kd.R_reads' HO_5.out).1; omega) | simpa using h_)
           obtain rfl := k55_openM hM33
           have HP33 := Kd.R_seg HX33.out (x10_1 : Int) (of_decide_eq_true (by first | (with_reducible assumption) | assumption)) (by have h_ : (x10_1 : Int) < ((x5_1.length : Int) : Int) := of_decide_eq_true (by first | (with_reducible assumption) | assumption); first | exact h_ | (have e_ := (Kd.R_reads' HO_5.out).1; omega) | simpa using h_) (seg := [.int .u64 ((rd_T55 t217 x10_1).f0), .int .u64 ((rd_T55 t217 x10_1).f1)]) (j := 0) hcl33 hcc33 (show 2 ≤ 2 from by decide) (x' := (⟨(rd_T55 t217 x10_1).f0, (rd_T55 t217 x10_1).f1⟩ : S55)) (k55_mkM _ _ _ (⟨(rd_T55 t217 x10_1).f0, (rd_T55 t217 x10_1).f1⟩ : S55) ) (fun _ hk => hk)
           have hx33_0 := hcc33 0 _ rfl
           (try simp only [show (k55).sz = 2 from rfl, Nat.mul_one, Nat.add_zero] at hx33_0)
           have hf33_0 := hfr33 0
           (try simp only [show (k55).sz = 2 from rfl, Nat.mul_one, Nat.add_zero] at hf33_0)
           have hx33_1 := hcc33 1 _ rfl
           (try simp only [show (k55).sz = 2 from rfl, Nat.mul_one, Nat.add_zero] at hx33_1)
           have hf33_1 := hfr33 1
           (try simp only [show (k55).sz = 2 from rfl, Nat.mul_one, Nat.add_zero] at hf33_1)
           clear hcl33 hcc33 hfr33 hM33
           go_wp2_with (first | ((with_reducible refine gate_store (t := 55) (p := 52) rfl ?_); refine store_event (t := 55) (p := 52) (v := ?vo_w34) (w1 := ((wr.setCell ⟨go31, (x10_1 : Int).toNat * 2, none⟩ (.int .u64 ((rd_T55 t217 x10_1).f0))).setCell ⟨go31, (x10_1 : Int).toNat * 2 + 1, none⟩ (.int .u64 ((rd_T55 t217 x10_1).f1)))) ?hg ?ho ?hn ?hr ?_; (case ho => rfl); (case hg => rfl); (case hn => rfl); (case hr => first | (go_simp; done) | (go_simp; rfl)); intro w34 hw; have hg : wr.grownBy w34 (some go31) := (by rw [hw]; exact HP33.2); have hp_ : Kd.R k55 55 w34 w.heap.size (fun k_ => some k_ ≠ (.slice (some ad220) t217.length co32 : Value).ownBlock) (.slice (some ⟨go31, 0, none⟩) x5_1.length co24) y221 := (by rw [hw, Ny221.out]; exact HP33.1); clear HP33; have n0_ := Aside0.mk (hp_); have n1_ := Aside0.mk (Kd.R_after (v := (.slice (some ⟨go31, 0, none⟩) x5_1.length co24)) (v1 := (.slice (some ⟨go31, 0, none⟩) x5_1.length co24)) (ok := (fun _ => True)) (by (with_reducible repeat (first | apply Kd.R_alloc | apply Kd.R_drewN | apply Kd.R_drew)); exact Kd.R_mono HO_9.out (fun _ hk => ⟨trivial, hk⟩)) hg (.inl rfl)); have n2_ := Aside0.mk (blk_grown (g := gb203) (o := .cells #[.int .u64 a0_0, .int .i64 a0_1, .int .i64 a0_2, .int .i64 a0_3, .slice A0_4 l0_4.length c0_4, .int .u64 a0_5, .bool a0_6] 44 (0, 0)) (by (with_reducible repeat (first | refine blk_drewN ?_ _ | refine blk_drew ?_ | refine blk_alloc ?_ _)); exact BK203.out) hg (Kd.R_ne HO_5.out BK203.out (by decide))); have n3_ := Aside0.mk (blk_grown (g := gb211) (o := .cells #[.int .u64 t208, .int .i64 t209, .int .i64 t210] 29 (0, 0)) (by (with_reducible repeat (first | refine blk_drewN ?_ _ | refine blk_drew ?_ | refine blk_alloc ?_ _)); exact BK211.out) hg (Kd.R_ne HO_5.out BK211.out (by decide))); have n4_ := Aside0.mk ((by rw [hw]; exact below_set (below_set (HB.out) GB31.out) GB31.out : Below w.heap.size w w34)); clear HO_5; clear HO_9; clear BK203; clear BK211; clear HB; have HO_5 := n0_; have HO_9 := n1_; have BK203 := n2_; have BK211 := n3_; have HB := n4_; clear n0_ n1_ n2_ n3_ n4_; clear hg hw hp_))
           (try simp only [← hl5_1])
           go_roundg k1
           case measure => have := HK1.out; omega
           case rel => exact ⟨(y221), (wrap64 (x10_1 + 1)), (by first | rfl | (simp; done) | (simp [*]; done)), H', ⟨by have := HK1.out; omega⟩, ⟨by (try simp only [hl5_1]); (with_reducible repeat (first | apply Kd.R_alloc | apply Kd.R_drewN | apply Kd.R_drew)); exact HO_5.out⟩, ⟨by (try simp only [hl5_1]); (with_reducible repeat (first | apply Kd.R_alloc | apply Kd.R_drewN | apply Kd.R_drew)); exact Kd.R_mono HO_9.out (fun _ hk => hk.2)⟩, ⟨by (try simp only [hl5_1]); (with_reducible repeat (first | refine blk_drewN ?_ _ | refine blk_drew ?_ | refine blk_alloc ?_ _)); exact BK203.out⟩, ⟨by (try simp only [hl5_1]); (with_reducible repeat (first | refine blk_drewN ?_ _ | refine blk_drew ?_ | refine blk_alloc ?_ _)); exact BK211.out⟩, ⟨by repeat (first | (with_reducible first | exact HB.out | apply below_alloc | apply pw_below_drewN | apply below_drew1 | refine below_set ?_ GE203.out | refine below_set ?_ GE211.out) | exact HB.out)⟩⟩
          ·rw [if_neg c30] at H
           exact absurd H (by simp)
         ·rw [if_neg c29] at H
          exact absurd H (by simp)
        ·rw [if_neg c28] at H
         exact absurd H (by simp)
       ·rw [if_neg c27] at H
        have c27b0 : decide (x10_1 < (l0_4.length : Int)) = false := decide_eq_false c27
        clear c27
        by_cases c35 : 0 ≤ (l0_4.length : Int)
        ·rw [if_pos c35] at H
         have c35b0 := eq_true c35
         have c35b1 : decide (0 ≤ (l0_4.length : Int)) = true := decide_eq_true c35
         clear c35
         by_cases c36 : (l0_4.length : Int) ≤ (x5_1.length : Int)
         ·rw [if_pos c36] at H
          have c36b0 := eq_true c36
          have c36b1 : decide ((l0_4.length : Int) ≤ (x5_1.length : Int)) = true := decide_eq_true c36
          clear c36
          obtain ⟨y222, hy222⟩ : ∃ y_ : List (S55), y_ = (x5_1.take ((l0_4.length : Int) : Int).toNat) := ⟨_, rfl⟩
          replace H : ((oracle_NoFit.f t208 t209 t210 a0_3 y222 a0_5).bind fun t226 => ((oracle_Sound.f t208 t209 t210 a0_3 (x5_1.take ((l0_4.length : Int) : Int).toNat)).bind fun t231 => ((croftref11_NoFit.f k1 a0_0 a0_1 a0_2 a0_3 l0_4 a0_5).bind fun t232 => (if (t216 == t232) = true then ((croftref11_NoFit.f k1 a0_0 a0_1 a0_2 a0_3 l1 a0_5).bind fun t233 => (if (t226 == t233) = true then ((croftref11_Sound.f k1 a0_0 a0_1 a0_2 a0_3 l1).bind fun t234 => (some (t231 == t234))) else (some false))) else (some false))))) = some r := by first | (rw [hy222]; with_reducible exact H) | (have H2_ := (Option.bind_some _ _).symm.trans H; rw [hy222]; with_reducible exact H2_) | (have H2_ := (Option.bind_some _ _).symm.trans H; with_reducible exact H2_) | with_reducible exact H | (rw [hy222]; exact H) | exact H
          have Ny222 := Aside0.mk hy222
          clear hy222
          replace H := Option.bind_eq_some_iff.mp H
          obtain ⟨t226, A370, H⟩ := H
          replace H : ((oracle_Sound.f t208 t209 t210 a0_3 (x5_1.take ((l0_4.length : Int) : Int).toNat)).bind fun t231 => ((croftref11_NoFit.f k1 a0_0 a0_1 a0_2 a0_3 l0_4 a0_5).bind fun t232 => (if (t216 == t232) = true then ((croftref11_NoFit.f k1 a0_0 a0_1 a0_2 a0_3 l1 a0_5).bind fun t233 => (if (t226 == t233) = true then ((croftref11_Sound.f k1 a0_0 a0_1 a0_2 a0_3 l1).bind fun t234 => (some (t231 == t234))) else (some false))) else (some false)))) = some r := H
          have A37 := Aside0.mk A370
          clear A370
          have c38b0 := eq_true (of_decide_eq_true (by first | (with_reducible assumption) | assumption) : 0 ≤ (l0_4.length : Int))
          have c39b0 := eq_true (of_decide_eq_true (by first | (with_reducible assumption) | assumption) : (l0_4.length : Int) ≤ (x5_1.length : Int))
          obtain ⟨y227, hy227⟩ : ∃ y_ : List (S55), y_ = (x5_1.take ((l0_4.length : Int) : Int).toNat) := ⟨_, rfl⟩
          replace H : ((oracle_Sound.f t208 t209 t210 a0_3 y227).bind fun t231 => ((croftref11_NoFit.f k1 a0_0 a0_1 a0_2 a0_3 l0_4 a0_5).bind fun t232 => (if (t216 == t232) = true then ((croftref11_NoFit.f k1 a0_0 a0_1 a0_2 a0_3 l1 a0_5).bind fun t233 => (if (t226 == t233) = true then ((croftref11_Sound.f k1 a0_0 a0_1 a0_2 a0_3 l1).bind fun t234 => (some (t231 == t234))) else (some false))) else (some false)))) = some r := by first | (rw [hy227]; with_reducible exact H) | (have H2_ := (Option.bind_some _ _).symm.trans H; rw [hy227]; with_reducible exact H2_) | (have H2_ := (Option.bind_some _ _).symm.trans H; with_reducible exact H2_) | with_reducible exact H | (rw [hy227]; exact H) | exact H
          have Ny227 := Aside0.mk hy227
          clear hy227
          replace H := Option.bind_eq_some_iff.mp H
          obtain ⟨t231, A400, H⟩ := H
          replace H : ((croftref11_NoFit.f k1 a0_0 a0_1 a0_2 a0_3 l0_4 a0_5).bind fun t232 => (if (t216 == t232) = true then ((croftref11_NoFit.f k1 a0_0 a0_1 a0_2 a0_3 l1 a0_5).bind fun t233 => (if (t226 == t233) = true then ((croftref11_Sound.f k1 a0_0 a0_1 a0_2 a0_3 l1).bind fun t234 => (some (t231 == t234))) else (some false))) else (some false))) = some r := H
          have A40 := Aside0.mk A400
          clear A400
          replace H := Option.bind_eq_some_iff.mp H
          obtain ⟨t232, A410, H⟩ := H
          replace H : (if (t216 == t232) = true then ((croftref11_NoFit.f k1 a0_0 a0_1 a0_2 a0_3 l1 a0_5).bind fun t233 => (if (t226 == t233) = true then ((croftref11_Sound.f k1 a0_0 a0_1 a0_2 a0_3 l1).bind fun t234 => (some (t231 == t234))) else (some false))) else (some false)) = some r := H
          have A41 := Aside0.mk A410
          clear A410
          by_cases c42 : (t216 == t232) = true
          ·rw [if_pos c42] at H
           have c42b0 : (t216 == t232) = true := c42
           (try (have c42b1 : decide (t216 = t232) = true := by simpa using c42))
           (try (have c42b2 : (t216 == t232) = true := by simpa using c42))
           clear c42
           replace H := Option.bind_eq_some_iff.mp H
           obtain ⟨t233, A430, H⟩ := H
           replace H : (if (t226 == t233) = true then ((croftref11_Sound.f k1 a0_0 a0_1 a0_2 a0_3 l1).bind fun t234 => (some (t231 == t234))) else (some false)) = some r := H
           have A43 := Aside0.mk A430
           clear A430
           by_cases c44 : (t226 == t233) = true
           ·rw [if_pos c44] at H
            have c44b0 : (t226 == t233) = true := c44
            (try (have c44b1 : decide (t226 = t233) = true := by simpa using c44))
            (try (have c44b2 : (t226 == t233) = true := by simpa using c44))
            clear c44
            replace H := Option.bind_eq_some_iff.mp H
            obtain ⟨t234, A450, H⟩ := H
            replace H : (some (t231 == t234)) = some r := H
            have A45 := Aside0.mk A450
            clear A450
            obtain rfl := Option.some.inj H
            try go_wp2
            have n0_ := Aside0.mk (Kd.R_drew HO_5.out)
            have n1_ := Aside0.mk (Kd.R_drew HO_9.out)
            have n2_ := Aside0.mk (blk_drew BK203.out)
            have n3_ := Aside0.mk (blk_drew BK211.out)
            have n4_ := Aside0.mk (below_drew1 HB.out)
            clear HO_5
            clear HO_9
            clear BK203
            clear BK211
            clear HB
            have HO_5 := n0_
            have HO_9 := n1_
            have BK203 := n2_
            have BK211 := n3_
            have HB := n4_
            clear n0_ n1_ n2_ n3_ n4_
            have q47 : ((l0_4.length : Int) : Int) ≤ ((x5_1.length : Int) : Int) := of_decide_eq_true (by first | (with_reducible assumption) | assumption)
            obtain ⟨i047, hi047, _, hsz47, _⟩ := info_parts info55
            have hroom47 : x5_1.length ≤ co24 := (Kd.R_reads' HO_5.out).2.1
            have hC47 : Kd.C k55 _ Ao24 x5_1.length x5_1 := (Kd.R_reads' HO_5.out).2.2
            have hcut47 := cut_to (P := Try.prog) 26 55 .i64 Try.underlying26 hi047 Ao24 x5_1.length co24 (l0_4.length : Int) (of_decide_eq_true (by first | (with_reducible assumption) | assumption)) q47 hroom47
            have hr47 := Kd.C_take (m := ((l0_4.length : Int) : Int).toNat) hC47 (by omega)
            have hy47 : y222.length = ((l0_4.length : Int) : Int).toNat := (by rw [Ny222.out, List.length_take]; omega)
            rw [← Ny222.out] at hr47
            rw [← hy47] at hcut47
            have HR225 := Aside0.mk hr47
            have HC225 := Aside0.mk (show y222.length ≤ co24 from by omega)
            clear hr47 hC47 hroom47 hi047 hsz47
            have KY47 := Aside0.mk hy47
            clear hy47
            have KL47 := Aside0.mk (show ((l0_4.length : Int) : Int).toNat ≤ x5_1.length from by omega)
            replace q47 := eq_true q47
            refine start_ (n := 10) (S := fun w' => w'.cell? ⟨gb211, 0, none⟩ = some (.int .u64 t208) ∧ w'.cell? ⟨gb211, 1, none⟩ = some (.int .i64 t209) ∧ w'.cell? ⟨gb211, 2, none⟩ = some (.int .i64 t210) ∧ w'.cell? ⟨gb203, 0, none⟩ = some (.int .u64 a0_0) ∧ w'.cell? ⟨gb203, 1, none⟩ = some (.int .i64 a0_1) ∧ w'.cell? ⟨gb203, 2, none⟩ = some (.int .i64 a0_2) ∧ w'.cell? ⟨gb203, 3, none⟩ = some (.int .i64 a0_3) ∧ w'.cell? ⟨gb203, 4, none⟩ = some (.slice A0_4 l0_4.length c0_4) ∧ w'.cell? ⟨gb203, 5, none⟩ = some (.int .u64 a0_5) ∧ w'.cell? ⟨gb203, 6, none⟩ = some (.bool a0_6)) (ds := []) #[F,F,F,F,F,F,F,F,F,F] (by kernel_rfl) rfl rfl ⟨(blk_cell BK211.out 0).trans rfl, (blk_cell BK211.out 1).trans rfl, (blk_cell BK211.out 2).trans rfl, (blk_cell BK203.out 0).trans rfl, (blk_cell BK203.out 1).trans rfl, (blk_cell BK203.out 2).trans rfl, (blk_cell BK203.out 3).trans rfl, (blk_cell BK203.out 4).trans rfl, (blk_cell BK203.out 5).trans rfl, (blk_cell BK203.out 6).trans rfl⟩ (fun hHeld => ?_); refine with_tabW croftlaw11_OracleAgain.tab14 croftlaw11_OracleAgain.bits14 (fun HT_ HW_ => ?_)
            generalize wr.drew = w46 at HO_5 HO_9 BK203 BK211 HB HR225 hHeld ⊢
            refine pure_ (i := 1) (N := some 54) (v := ?_) (a' := ?_) #[F,T,F,F,F,F,F,F,F,F] rfl rfl (any_of HT_.out (by kernel_rfl)) (fun _ _ _ h => h) (Or.inl ⟨by rfl, ?_⟩) ?_ ?_
            rotate_left
            ·intro w'
             go_simp
             with_reducible rfl
            rotate_left
            ·simp only [Act.put, Sa, Sb, Sc, i64_w, i32_w]
             rfl
            refine pure_ (i := 3) (N := some 56) (v := ?_) (a' := ?_) #[F,T,F,T,F,F,F,F,F,F] rfl rfl (any_of HT_.out (by kernel_rfl)) (fun _ _ _ h => h) (Or.inl ⟨by rfl, ?_⟩) ?_ ?_
            rotate_left
            ·intro w'
             go_simp
             with_reducible rfl
            rotate_left
            ·simp only [Act.put, Sa, Sb, Sc, i64_w, i32_w]
             rfl
            refine pure_ (i := 4) (N := some 57) (v := ?_) (a' := ?_) #[F,T,F,T,T,F,F,F,F,F] rfl rfl (any_of HT_.out (by kernel_rfl)) (fun _ _ _ h => h) (Or.inl ⟨by rfl, ?_⟩) ?_ ?_
            rotate_left
            ·intro w'
             go_simp
             with_reducible rfl
            rotate_left
            ·simp only [Act.put, Sa, Sb, Sc, i64_w, i32_w]
             rfl
            refine pure_ (i := 5) (N := some 58) (v := ?_) (a' := ?_) #[F,T,F,T,T,T,F,F,F,F] rfl rfl (any_of HT_.out (by kernel_rfl)) (fun _ _ _ h => h) (Or.inl ⟨by rfl, ?_⟩) ?_ ?_
            rotate_left
            ·intro w'
             go_simp
             with_reducible rfl
            rotate_left
            ·simp only [Act.put, Sa, Sb, Sc, i64_w, i32_w]
             rfl
            refine pure_ (i := 6) (N := some 59) (v := ?_) (a' := ?_) #[F,T,F,T,T,T,T,F,F,F] rfl rfl (any_of HT_.out (by kernel_rfl)) (fun _ _ _ h => h) (Or.inl ⟨by rfl, ?_⟩) ?_ ?_
            rotate_left
            ·intro w'
             go_simp
             with_reducible rfl
            rotate_left
            ·simp only [Act.put, Sa, Sb, Sc, i64_w, i32_w]
             rfl
            refine take_ (i := 0) (N := some 53) (v := ?_) (a' := ?_) #[T,T,F,T,T,T,T,F,F,F] rfl rfl (take_ofW HT_.out HW_.out (by kernel_rfl)) (fun _ _ _ h => h) (Or.inl ⟨by rfl, ?_⟩) hHeld ?_ ?_
            rotate_left
            ·rintro w' ⟨s0, s1, s2, s3, s4, s5, s6, s7, s8, s9⟩
             go_simp
             with_reducible rfl
            rotate_left
            ·simp only [Act.put, Sa, Sb, Sc, i64_w, i32_w]
             rfl
            refine take_ (i := 2) (N := some 55) (v := ?_) (a' := ?_) #[T,T,T,T,T,T,T,F,F,F] rfl rfl (take_ofW HT_.out HW_.out (by kernel_rfl)) (fun _ _ _ h => h) (Or.inl ⟨by rfl, ?_⟩) hHeld ?_ ?_
            rotate_left
            ·rintro w' ⟨s0, s1, s2, s3, s4, s5, s6, s7, s8, s9⟩
             go_simp
             with_reducible rfl
            rotate_left
            ·simp only [Act.put, Sa, Sb, Sc, i64_w, i32_w]
             rfl
            refine take_ (i := 7) (N := some 60) (v := ?_) (a' := ?_) #[T,T,T,T,T,T,T,T,F,F] rfl rfl (take_ofW HT_.out HW_.out (by kernel_rfl)) (fun _ _ _ h => h) (Or.inl ⟨by rfl, ?_⟩) hHeld ?_ ?_
            rotate_left
            ·rintro w' ⟨s0, s1, s2, s3, s4, s5, s6, s7, s8, s9⟩
             go_simp
             with_reducible rfl
            rotate_left
            ·simp only [Act.put, Sa, Sb, Sc, i64_w, i32_w]
             rfl
            refine one_ (i := 8) (N := some 61) #[T,T,T,T,T,T,T,T,T,F] rfl rfl (one_of HT_.out (by kernel_rfl)) (by decide) (fun K hK => ?_)
            refine goes_ Try.func23 (by kernel_rfl) rfl #[.agg #[.int .u64 t208, .int .i64 t209, .int .i64 t210], .int .i64 a0_3, .slice Ao24 y222.length co24, .int .u64 a0_5] (by rfl) rfl rfl (by (try simp only [List.map_toArray, List.map_cons, List.map_nil]); first | done | rfl | (rw [show y222.length = y227.length from by rw [Ny222.out, Ny227.out]]; rfl) | (simp only [List.length_drop, List.length_take]; rfl)) ?_
            with_reducible refine (oracle_NoFit.calls t208 t209 t210 a0_3 _ _ y222 a0_5 t226 _ ?side1 ?side2 A37.out).mono ?_
            (case side1 => repeat (first | exact (by repeat (first | (with_reducible exact HR225.out) | (with_reducible refine Kd.C_alloc ?_ _) | (with_reducible refine Kd.C_drewN ?_ _) | (with_reducible refine Kd.C_drew ?_) | exact HR225.out)) | (with_reducible refine Kd.C_alloc ?_ _) | (with_reducible refine Kd.C_drewN ?_ _) | (with_reducible refine Kd.C_drew ?_)))
            (case side2 => exact HC225.out)
            rintro e w48 ⟨rfl, hb⟩
            refine ⟨_, rfl, ?_⟩
            have n0_ := Aside0.mk (Kd.R_below (by (with_reducible repeat (first | apply Kd.R_alloc | apply Kd.R_drewN | apply Kd.R_drew)); exact HO_5.out) hb)
            have n1_ := Aside0.mk (Kd.R_below (by (with_reducible repeat (first | apply Kd.R_alloc | apply Kd.R_drewN | apply Kd.R_drew)); exact HO_9.out) hb)
            have n2_ := Aside0.mk (blk_below (g := gb203) (o := .cells #[.int .u64 a0_0, .int .i64 a0_1, .int .i64 a0_2, .int .i64 a0_3, .slice A0_4 l0_4.length c0_4, .int .u64 a0_5, .bool a0_6] 44 (0, 0)) (by (with_reducible repeat (first | refine blk_drewN ?_ _ | refine blk_drew ?_ | refine blk_alloc ?_ _)); exact BK203.out) hb)
            have n3_ := Aside0.mk (blk_below (g := gb211) (o := .cells #[.int .u64 t208, .int .i64 t209, .int .i64 t210] 29 (0, 0)) (by (with_reducible repeat (first | refine blk_drewN ?_ _ | refine blk_drew ?_ | refine blk_alloc ?_ _)); exact BK211.out) hb)
            have n4_ := Aside0.mk (Kd.C_below (by repeat (first | (with_reducible exact HR225.out) | (with_reducible refine Kd.C_alloc ?_ _) | (with_reducible refine Kd.C_drewN ?_ _) | (with_reducible refine Kd.C_drew ?_) | exact HR225.out)) hb)
            have n5_ := Aside0.mk (below_step (by repeat (first | (with_reducible first | exact HB.out | apply below_alloc | apply pw_below_drewN | apply below_drew1 | refine below_set ?_ GE203.out | refine below_set ?_ GE211.out) | exact HB.out)) hb)
            clear HO_5
            clear HO_9
            clear BK203
            clear BK211
            clear HR225
            clear HB
            have HO_5 := n0_
            have HO_9 := n1_
            have BK203 := n2_
            have BK211 := n3_
            have HR225 := n4_
            have HB := n5_
            clear n0_ n1_ n2_ n3_ n4_ n5_
            (try clear hb)
            (try clear hb2)
            (try clear hk)
            (try clear hi)
            refine hK.out _ _ ⟨(blk_cell BK211.out 0).trans rfl, (blk_cell BK211.out 1).trans rfl, (blk_cell BK211.out 2).trans rfl, (blk_cell BK203.out 0).trans rfl, (blk_cell BK203.out 1).trans rfl, (blk_cell BK203.out 2).trans rfl, (blk_cell BK203.out 3).trans rfl, (blk_cell BK203.out 4).trans rfl, (blk_cell BK203.out 5).trans rfl, (blk_cell BK203.out 6).trans rfl⟩ (fun hHeld => ?_)
            clear hK K
            refine norm_ (a' := ?_) ?_ ?_
            rotate_left
            ·show Act.put _ (some 61) _ = _
             simp only [Act.put, Sa, Sb, Sc, i64_w, i32_w]
             rfl
            refine pure_ (i := 9) (N := some 11) (v := ?_) (a' := ?_) #[T,T,T,T,T,T,T,T,T,T] rfl rfl (any_of HT_.out (by kernel_rfl)) (fun _ _ _ h => h) (Or.inl ⟨by rfl, ?_⟩) ?_ ?_
            rotate_left
            ·intro w'
             go_simp
             with_reducible rfl
            rotate_left
            ·simp only [Act.put, Sa, Sb, Sc, i64_w, i32_w]
             rfl
            refine done_ (done_of HT_.out (by kernel_rfl)) ?_
            try go_wp2
            have n0_ := Aside0.mk (Kd.R_drew HO_5.out)
            have n1_ := Aside0.mk (Kd.R_drew HO_9.out)
            have n2_ := Aside0.mk (blk_drew BK203.out)
            have n3_ := Aside0.mk (blk_drew BK211.out)
            have n4_ := Aside0.mk (Kd.C_drew HR225.out)
            have n5_ := Aside0.mk (below_drew1 HB.out)
            clear HO_5
            clear HO_9
            clear BK203
            clear BK211
            clear HR225
            clear HB
            have HO_5 := n0_
            have HO_9 := n1_
            have BK203 := n2_
            have BK211 := n3_
            have HR225 := n4_
            have HB := n5_
            clear n0_ n1_ n2_ n3_ n4_ n5_
            have q50 : ((l0_4.length : Int) : Int) ≤ ((x5_1.length : Int) : Int) := of_decide_eq_true (by first | (with_reducible assumption) | assumption)
            obtain ⟨i050, hi050, _, hsz50, _⟩ := info_parts info55
            have hroom50 : x5_1.length ≤ co24 := (Kd.R_reads' HO_5.out).2.1
            have hC50 : Kd.C k55 _ Ao24 x5_1.length x5_1 := (Kd.R_reads' HO_5.out).2.2
            have hcut50 := cut_to (P := Try.prog) 26 55 .i64 Try.underlying26 hi050 Ao24 x5_1.length co24 (l0_4.length : Int) (of_decide_eq_true (by first | (with_reducible assumption) | assumption)) q50 hroom50
            have hr50 := Kd.C_take (m := ((l0_4.length : Int) : Int).toNat) hC50 (by omega)
            have hy50 : y227.length = ((l0_4.length : Int) : Int).toNat := (by rw [Ny227.out, List.length_take]; omega)
            rw [← Ny227.out] at hr50
            rw [← hy50] at hcut50
            have HR230 := Aside0.mk hr50
            have HC230 := Aside0.mk (show y227.length ≤ co24 from by omega)
            clear hr50 hC50 hroom50 hi050 hsz50
            have KY50 := Aside0.mk hy50
            clear hy50
            have KL50 := Aside0.mk (show ((l0_4.length : Int) : Int).toNat ≤ x5_1.length from by omega)
            replace q50 := eq_true q50
            refine start_ (n := 8) (S := fun w' => w'.cell? ⟨gb211, 0, none⟩ = some (.int .u64 t208) ∧ w'.cell? ⟨gb211, 1, none⟩ = some (.int .i64 t209) ∧ w'.cell? ⟨gb211, 2, none⟩ = some (.int .i64 t210) ∧ w'.cell? ⟨gb203, 0, none⟩ = some (.int .u64 a0_0) ∧ w'.cell? ⟨gb203, 1, none⟩ = some (.int .i64 a0_1) ∧ w'.cell? ⟨gb203, 2, none⟩ = some (.int .i64 a0_2) ∧ w'.cell? ⟨gb203, 3, none⟩ = some (.int .i64 a0_3) ∧ w'.cell? ⟨gb203, 4, none⟩ = some (.slice A0_4 l0_4.length c0_4) ∧ w'.cell? ⟨gb203, 5, none⟩ = some (.int .u64 a0_5) ∧ w'.cell? ⟨gb203, 6, none⟩ = some (.bool a0_6)) (ds := []) #[F,F,F,F,F,F,F,F] (by kernel_rfl) rfl rfl ⟨(blk_cell BK211.out 0).trans rfl, (blk_cell BK211.out 1).trans rfl, (blk_cell BK211.out 2).trans rfl, (blk_cell BK203.out 0).trans rfl, (blk_cell BK203.out 1).trans rfl, (blk_cell BK203.out 2).trans rfl, (blk_cell BK203.out 3).trans rfl, (blk_cell BK203.out 4).trans rfl, (blk_cell BK203.out 5).trans rfl, (blk_cell BK203.out 6).trans rfl⟩ (fun hHeld => ?_); refine with_tabW croftlaw11_OracleAgain.tab15 croftlaw11_OracleAgain.bits15 (fun HT_ HW_ => ?_)
            generalize w48.drew = w49 at HO_5 HO_9 BK203 BK211 HR225 HB HR230 hHeld ⊢
            refine pure_ (i := 1) (N := some 63) (v := ?_) (a' := ?_) #[F,T,F,F,F,F,F,F] rfl rfl (any_of HT_.out (by kernel_rfl)) (fun _ _ _ h => h) (Or.inl ⟨by rfl, ?_⟩) ?_ ?_
            rotate_left
            ·intro w'
             go_simp
             with_reducible rfl
            rotate_left
            ·simp only [Act.put, Sa, Sb, Sc, i64_w, i32_w]
             rfl
            refine pure_ (i := 3) (N := some 65) (v := ?_) (a' := ?_) #[F,T,F,T,F,F,F,F] rfl rfl (any_of HT_.out (by kernel_rfl)) (fun _ _ _ h => h) (Or.inl ⟨by rfl, ?_⟩) ?_ ?_
            rotate_left
            ·intro w'
             go_simp
             with_reducible rfl
            rotate_left
            ·simp only [Act.put, Sa, Sb, Sc, i64_w, i32_w]
             rfl
            refine pure_ (i := 4) (N := some 66) (v := ?_) (a' := ?_) #[F,T,F,T,T,F,F,F] rfl rfl (any_of HT_.out (by kernel_rfl)) (fun _ _ _ h => h) (Or.inl ⟨by rfl, ?_⟩) ?_ ?_
            rotate_left
            ·intro w'
             go_simp
             with_reducible rfl
            rotate_left
            ·simp only [Act.put, Sa, Sb, Sc, i64_w, i32_w]
             rfl
            refine pure_ (i := 5) (N := some 67) (v := ?_) (a' := ?_) #[F,T,F,T,T,T,F,F] rfl rfl (any_of HT_.out (by kernel_rfl)) (fun _ _ _ h => h) (Or.inl ⟨by rfl, ?_⟩) ?_ ?_
            rotate_left
            ·intro w'
             go_simp
             with_reducible rfl
            rotate_left
            ·simp only [Act.put, Sa, Sb, Sc, i64_w, i32_w]
             rfl
            refine take_ (i := 0) (N := some 62) (v := ?_) (a' := ?_) #[T,T,F,T,T,T,F,F] rfl rfl (take_ofW HT_.out HW_.out (by kernel_rfl)) (fun _ _ _ h => h) (Or.inl ⟨by rfl, ?_⟩) hHeld ?_ ?_
            rotate_left
            ·rintro w' ⟨s0, s1, s2, s3, s4, s5, s6, s7, s8, s9⟩
             go_simp
             with_reducible rfl
            rotate_left
            ·simp only [Act.put, Sa, Sb, Sc, i64_w, i32_w]
             rfl
            refine take_ (i := 2) (N := some 64) (v := ?_) (a' := ?_) #[T,T,T,T,T,T,F,F] rfl rfl (take_ofW HT_.out HW_.out (by kernel_rfl)) (fun _ _ _ h => h) (Or.inl ⟨by rfl, ?_⟩) hHeld ?_ ?_
            rotate_left
            ·rintro w' ⟨s0, s1, s2, s3, s4, s5, s6, s7, s8, s9⟩
             go_simp
             with_reducible rfl
            rotate_left
            ·simp only [Act.put, Sa, Sb, Sc, i64_w, i32_w]
             rfl
            refine one_ (i := 6) (N := some 68) #[T,T,T,T,T,T,T,F] rfl rfl (one_of HT_.out (by kernel_rfl)) (by decide) (fun K hK => ?_)
            refine goes_ Try.func14 (by kernel_rfl) rfl #[.agg #[.int .u64 t208, .int .i64 t209, .int .i64 t210], .int .i64 a0_3, .slice Ao24 y227.length co24] (by rfl) rfl rfl (by (try simp only [List.map_toArray, List.map_cons, List.map_nil]); first | done | rfl | (rw [show y227.length = y222.length from by rw [Ny227.out, Ny222.out]]; rfl) | (simp only [List.length_drop, List.length_take]; rfl)) ?_
            with_reducible refine (oracle_Sound.calls t208 t209 t210 a0_3 _ _ y227 t231 _ ?side1 ?side2 A40.out).mono ?_
            (case side1 => repeat (first | exact (by repeat (first | (with_reducible exact HR230.out) | (with_reducible refine Kd.C_alloc ?_ _) | (with_reducible refine Kd.C_drewN ?_ _) | (with_reducible refine Kd.C_drew ?_) | exact HR230.out)) | (with_reducible refine Kd.C_alloc ?_ _) | (with_reducible refine Kd.C_drewN ?_ _) | (with_reducible refine Kd.C_drew ?_)))
            (case side2 => exact HC230.out)
            rintro e w51 ⟨rfl, hb⟩
            refine ⟨_, rfl, ?_⟩
            have n0_ := Aside0.mk (Kd.R_below (by (with_reducible repeat (first | apply Kd.R_alloc | apply Kd.R_drewN | apply Kd.R_drew)); exact HO_5.out) hb)
            have n1_ := Aside0.mk (Kd.R_below (by (with_reducible repeat (first | apply Kd.R_alloc | apply Kd.R_drewN | apply Kd.R_drew)); exact HO_9.out) hb)
            have n2_ := Aside0.mk (blk_below (g := gb203) (o := .cells #[.int .u64 a0_0, .int .i64 a0_1, .int .i64 a0_2, .int .i64 a0_3, .slice A0_4 l0_4.length c0_4, .int .u64 a0_5, .bool a0_6] 44 (0, 0)) (by (with_reducible repeat (first | refine blk_drewN ?_ _ | refine blk_drew ?_ | refine blk_alloc ?_ _)); exact BK203.out) hb)
            have n3_ := Aside0.mk (blk_below (g := gb211) (o := .cells #[.int .u64 t208, .int .i64 t209, .int .i64 t210] 29 (0, 0)) (by (with_reducible repeat (first | refine blk_drewN ?_ _ | refine blk_drew ?_ | refine blk_alloc ?_ _)); exact BK211.out) hb)
            have n4_ := Aside0.mk (Kd.C_below (by repeat (first | (with_reducible exact HR225.out) | (with_reducible refine Kd.C_alloc ?_ _) | (with_reducible refine Kd.C_drewN ?_ _) | (with_reducible refine Kd.C_drew ?_) | exact HR225.out)) hb)
            have n5_ := Aside0.mk (Kd.C_below (by repeat (first | (with_reducible exact HR230.out) | (with_reducible refine Kd.C_alloc ?_ _) | (with_reducible refine Kd.C_drewN ?_ _) | (with_reducible refine Kd.C_drew ?_) | exact HR230.out)) hb)
            have n6_ := Aside0.mk (below_step (by repeat (first | (with_reducible first | exact HB.out | apply below_alloc | apply pw_below_drewN | apply below_drew1 | refine below_set ?_ GE203.out | refine below_set ?_ GE211.out) | exact HB.out)) hb)
            clear HO_5
            clear HO_9
            clear BK203
            clear BK211
            clear HR225
            clear HR230
            clear HB
            have HO_5 := n0_
            have HO_9 := n1_
            have BK203 := n2_
            have BK211 := n3_
            have HR225 := n4_
            have HR230 := n5_
            have HB := n6_
            clear n0_ n1_ n2_ n3_ n4_ n5_ n6_
            (try clear hb)
            (try clear hb2)
            (try clear hk)
            (try clear hi)
            refine hK.out _ _ ⟨(blk_cell BK211.out 0).trans rfl, (blk_cell BK211.out 1).trans rfl, (blk_cell BK211.out 2).trans rfl, (blk_cell BK203.out 0).trans rfl, (blk_cell BK203.out 1).trans rfl, (blk_cell BK203.out 2).trans rfl, (blk_cell BK203.out 3).trans rfl, (blk_cell BK203.out 4).trans rfl, (blk_cell BK203.out 5).trans rfl, (blk_cell BK203.out 6).trans rfl⟩ (fun hHeld => ?_)
            clear hK K
            refine norm_ (a' := ?_) ?_ ?_
            rotate_left
            ·show Act.put _ (some 68) _ = _
             simp only [Act.put, Sa, Sb, Sc, i64_w, i32_w]
             rfl
            refine pure_ (i := 7) (N := some 12) (v := ?_) (a' := ?_) #[T,T,T,T,T,T,T,T] rfl rfl (any_of HT_.out (by kernel_rfl)) (fun _ _ _ h => h) (Or.inl ⟨by rfl, ?_⟩) ?_ ?_
            rotate_left
            ·intro w'
             go_simp
             with_reducible rfl
            rotate_left
            ·simp only [Act.put, Sa, Sb, Sc, i64_w, i32_w]
             rfl
            refine done_ (done_of HT_.out (by kernel_rfl)) ?_
            have hnb52 := NB203_211.out
            have hnc52 := NB211_203.out
            have hcz53_0 : w51.cell? ⟨gb203, 0, none⟩ = some (.int .u64 a0_0) := (blk_cell BK203.out 0).trans rfl
            have hcz53_1 : w51.cell? ⟨gb203, 1, none⟩ = some (.int .i64 a0_1) := (blk_cell BK203.out 1).trans rfl
            have hcz53_2 : w51.cell? ⟨gb203, 2, none⟩ = some (.int .i64 a0_2) := (blk_cell BK203.out 2).trans rfl
            have hcz53_3 : w51.cell? ⟨gb203, 3, none⟩ = some (.int .i64 a0_3) := (blk_cell BK203.out 3).trans rfl
            have hcz53_4 : w51.cell? ⟨gb203, 4, none⟩ = some (.slice A0_4 l0_4.length c0_4) := (blk_cell BK203.out 4).trans rfl
            have hcz53_5 : w51.cell? ⟨gb203, 5, none⟩ = some (.int .u64 a0_5) := (blk_cell BK203.out 5).trans rfl
            have hcz53_6 : w51.cell? ⟨gb203, 6, none⟩ = some (.bool a0_6) := (blk_cell BK203.out 6).trans rfl
            have hfz53_0 := blk_frozen BK203.out 0
            have hfz53_1 := blk_frozen BK203.out 1
            have hfz53_2 := blk_frozen BK203.out 2
            have hfz53_3 := blk_frozen BK203.out 3
            have hfz53_4 := blk_frozen BK203.out 4
            have hfz53_5 := blk_frozen BK203.out 5
            have hfz53_6 := blk_frozen BK203.out 6
            try go_wp2_with (first | ((with_reducible refine gate_callee (f := 27) rfl ?_); refine goesL_ (some 78) rfl rfl Try.func27 (by kernel_rfl) rfl #[.agg #[.int .u64 a0_0, .int .i64 a0_1, .int .i64 a0_2], .int .i64 a0_3, .slice A0_4 l0_4.length c0_4, .int .u64 a0_5] rfl (by (try simp only [List.map_toArray, List.map_cons, List.map_nil]); first | done | rfl | (simp only [List.length_drop, List.length_take]; rfl)) ?_; (with_reducible refine (croftref11_NoFit.calls k1 a0_0 a0_1 a0_2 a0_3 _ _ l0_4 a0_5 t232 _ ?side1 ?side2 A41.out).mono ?_); (case side1 => repeat (first | exact (Kd.C_below HR0_4.out HB.out) | (with_reducible refine Kd.C_alloc ?_ _) | (with_reducible refine Kd.C_drewN ?_ _) | (with_reducible refine Kd.C_drew ?_))); (case side2 => exact HC0_4.out); rintro e w54 ⟨rfl, hb⟩; refine ⟨_, rfl, ?_⟩; have n0_ := Aside0.mk (Kd.R_below (by (with_reducible repeat (first | apply Kd.R_alloc | apply Kd.R_drewN | apply Kd.R_drew)); exact HO_5.out) hb); have n1_ := Aside0.mk (Kd.R_below (by (with_reducible repeat (first | apply Kd.R_alloc | apply Kd.R_drewN | apply Kd.R_drew)); exact HO_9.out) hb); have n2_ := Aside0.mk (blk_below (g := gb203) (o := .cells #[.int .u64 a0_0, .int .i64 a0_1, .int .i64 a0_2, .int .i64 a0_3, .slice A0_4 l0_4.length c0_4, .int .u64 a0_5, .bool a0_6] 44 (0, 0)) (by (with_reducible repeat (first | refine blk_drewN ?_ _ | refine blk_drew ?_ | refine blk_alloc ?_ _)); exact BK203.out) hb); have n3_ := Aside0.mk (blk_below (g := gb211) (o := .cells #[.int .u64 t208, .int .i64 t209, .int .i64 t210] 29 (0, 0)) (by (with_reducible repeat (first | refine blk_drewN ?_ _ | refine blk_drew ?_ | refine blk_alloc ?_ _)); exact BK211.out) hb); have n4_ := Aside0.mk (Kd.C_below (by repeat (first | (with_reducible exact HR225.out) | (with_reducible refine Kd.C_alloc ?_ _) | (with_reducible refine Kd.C_drewN ?_ _) | (with_reducible refine Kd.C_drew ?_) | exact HR225.out)) hb); have n5_ := Aside0.mk (Kd.C_below (by repeat (first | (with_reducible exact HR230.out) | (with_reducible refine Kd.C_alloc ?_ _) | (with_reducible refine Kd.C_drewN ?_ _) | (with_reducible refine Kd.C_drew ?_) | exact HR230.out)) hb); have n6_ := Aside0.mk (below_step (by repeat (first | (with_reducible first | exact HB.out | apply below_alloc | apply pw_below_drewN | apply below_drew1 | refine below_set ?_ GE203.out | refine below_set ?_ GE211.out) | exact HB.out)) hb); clear HO_5; clear HO_9; clear BK203; clear BK211; clear HR225; clear HR230; clear HB; have HO_5 := n0_; have HO_9 := n1_; have BK203 := n2_; have BK211 := n3_; have HR225 := n4_; have HR230 := n5_; have HB := n6_; clear n0_ n1_ n2_ n3_ n4_ n5_ n6_; (try clear hb); (try clear hb2); (try clear hk); (try clear hi); have hcz55_0 : w54.cell? ⟨gb203, 0, none⟩ = some (.int .u64 a0_0) := (blk_cell BK203.out 0).trans rfl; have hcz55_1 : w54.cell? ⟨gb203, 1, none⟩ = some (.int .i64 a0_1) := (blk_cell BK203.out 1).trans rfl; have hcz55_2 : w54.cell? ⟨gb203, 2, none⟩ = some (.int .i64 a0_2) := (blk_cell BK203.out 2).trans rfl; have hcz55_3 : w54.cell? ⟨gb203, 3, none⟩ = some (.int .i64 a0_3) := (blk_cell BK203.out 3).trans rfl; have hcz55_4 : w54.cell? ⟨gb203, 4, none⟩ = some (.slice A0_4 l0_4.length c0_4) := (blk_cell BK203.out 4).trans rfl; have hcz55_5 : w54.cell? ⟨gb203, 5, none⟩ = some (.int .u64 a0_5) := (blk_cell BK203.out 5).trans rfl; have hcz55_6 : w54.cell? ⟨gb203, 6, none⟩ = some (.bool a0_6) := (blk_cell BK203.out 6).trans rfl; have hfz55_0 := blk_frozen BK203.out 0; have hfz55_1 := blk_frozen BK203.out 1; have hfz55_2 := blk_frozen BK203.out 2; have hfz55_3 := blk_frozen BK203.out 3; have hfz55_4 := blk_frozen BK203.out 4; have hfz55_5 := blk_frozen BK203.out 5; have hfz55_6 := blk_frozen BK203.out 6) | (go_at_call 27; (with_reducible refine (croftref11_NoFit.calls k1 a0_0 a0_1 a0_2 a0_3 _ _ l1 a0_5 t233 _ ?side1 ?side2 A43.out).mono ?_); (case side1 => repeat (first | exact (Kd.C_below HR1.out HB.out) | (with_reducible refine Kd.C_alloc ?_ _) | (with_reducible refine Kd.C_drewN ?_ _) | (with_reducible refine Kd.C_drew ?_))); (case side2 => exact HC1.out); rintro e w56 ⟨rfl, hb⟩; have n0_ := Aside0.mk (Kd.R_below (by (with_reducible repeat (first | apply Kd.R_alloc | apply Kd.R_drewN | apply Kd.R_drew)); exact HO_5.out) hb); have n1_ := Aside0.mk (Kd.R_below (by (with_reducible repeat (first | apply Kd.R_alloc | apply Kd.R_drewN | apply Kd.R_drew)); exact HO_9.out) hb); have n2_ := Aside0.mk (blk_below (g := gb203) (o := .cells #[.int .u64 a0_0, .int .i64 a0_1, .int .i64 a0_2, .int .i64 a0_3, .slice A0_4 l0_4.length c0_4, .int .u64 a0_5, .bool a0_6] 44 (0, 0)) (by (with_reducible repeat (first | refine blk_drewN ?_ _ | refine blk_drew ?_ | refine blk_alloc ?_ _)); exact BK203.out) hb); have n3_ := Aside0.mk (blk_below (g := gb211) (o := .cells #[.int .u64 t208, .int .i64 t209, .int .i64 t210] 29 (0, 0)) (by (with_reducible repeat (first | refine blk_drewN ?_ _ | refine blk_drew ?_ | refine blk_alloc ?_ _)); exact BK211.out) hb); have n4_ := Aside0.mk (Kd.C_below (by repeat (first | (with_reducible exact HR225.out) | (with_reducible refine Kd.C_alloc ?_ _) | (with_reducible refine Kd.C_drewN ?_ _) | (with_reducible refine Kd.C_drew ?_) | exact HR225.out)) hb); have n5_ := Aside0.mk (Kd.C_below (by repeat (first | (with_reducible exact HR230.out) | (with_reducible refine Kd.C_alloc ?_ _) | (with_reducible refine Kd.C_drewN ?_ _) | (with_reducible refine Kd.C_drew ?_) | exact HR230.out)) hb); have n6_ := Aside0.mk (below_step (by repeat (first | (with_reducible first | exact HB.out | apply below_alloc | apply pw_below_drewN | apply below_drew1 | refine below_set ?_ GE203.out | refine below_set ?_ GE211.out) | exact HB.out)) hb); clear HO_5; clear HO_9; clear BK203; clear BK211; clear HR225; clear HR230; clear HB; have HO_5 := n0_; have HO_9 := n1_; have BK203 := n2_; have BK211 := n3_; have HR225 := n4_; have HR230 := n5_; have HB := n6_; clear n0_ n1_ n2_ n3_ n4_ n5_ n6_; (try clear hb); (try clear hb2); (try clear hk); (try clear hi); have hcz57_0 : w56.cell? ⟨gb203, 0, none⟩ = some (.int .u64 a0_0) := (blk_cell BK203.out 0).trans rfl; have hcz57_1 : w56.cell? ⟨gb203, 1, none⟩ = some (.int .i64 a0_1) := (blk_cell BK203.out 1).trans rfl; have hcz57_2 : w56.cell? ⟨gb203, 2, none⟩ = some (.int .i64 a0_2) := (blk_cell BK203.out 2).trans rfl; have hcz57_3 : w56.cell? ⟨gb203, 3, none⟩ = some (.int .i64 a0_3) := (blk_cell BK203.out 3).trans rfl; have hcz57_4 : w56.cell? ⟨gb203, 4, none⟩ = some (.slice A0_4 l0_4.length c0_4) := (blk_cell BK203.out 4).trans rfl; have hcz57_5 : w56.cell? ⟨gb203, 5, none⟩ = some (.int .u64 a0_5) := (blk_cell BK203.out 5).trans rfl; have hcz57_6 : w56.cell? ⟨gb203, 6, none⟩ = some (.bool a0_6) := (blk_cell BK203.out 6).trans rfl; have hfz57_0 := blk_frozen BK203.out 0; have hfz57_1 := blk_frozen BK203.out 1; have hfz57_2 := blk_frozen BK203.out 2; have hfz57_3 := blk_frozen BK203.out 3; have hfz57_4 := blk_frozen BK203.out 4; have hfz57_5 := blk_frozen BK203.out 5; have hfz57_6 := blk_frozen BK203.out 6) | (go_at_call 16; (with_reducible refine (croftref11_Sound.calls k1 a0_0 a0_1 a0_2 a0_3 _ _ l1 t234 _ ?side1 ?side2 A45.out).mono ?_); (case side1 => repeat (first | exact (Kd.C_below HR1.out HB.out) | (with_reducible refine Kd.C_alloc ?_ _) | (with_reducible refine Kd.C_drewN ?_ _) | (with_reducible refine Kd.C_drew ?_))); (case side2 => exact HC1.out); rintro e w58 ⟨rfl, hb⟩; have n0_ := Aside0.mk (Kd.R_below (by (with_reducible repeat (first | apply Kd.R_alloc | apply Kd.R_drewN | apply Kd.R_drew)); exact HO_5.out) hb); have n1_ := Aside0.mk (Kd.R_below (by (with_reducible repeat (first | apply Kd.R_alloc | apply Kd.R_drewN | apply Kd.R_drew)); exact HO_9.out) hb); have n2_ := Aside0.mk (blk_below (g := gb203) (o := .cells #[.int .u64 a0_0, .int .i64 a0_1, .int .i64 a0_2, .int .i64 a0_3, .slice A0_4 l0_4.length c0_4, .int .u64 a0_5, .bool a0_6] 44 (0, 0)) (by (with_reducible repeat (first | refine blk_drewN ?_ _ | refine blk_drew ?_ | refine blk_alloc ?_ _)); exact BK203.out) hb); have n3_ := Aside0.mk (blk_below (g := gb211) (o := .cells #[.int .u64 t208, .int .i64 t209, .int .i64 t210] 29 (0, 0)) (by (with_reducible repeat (first | refine blk_drewN ?_ _ | refine blk_drew ?_ | refine blk_alloc ?_ _)); exact BK211.out) hb); have n4_ := Aside0.mk (Kd.C_below (by repeat (first | (with_reducible exact HR225.out) | (with_reducible refine Kd.C_alloc ?_ _) | (with_reducible refine Kd.C_drewN ?_ _) | (with_reducible refine Kd.C_drew ?_) | exact HR225.out)) hb); have n5_ := Aside0.mk (Kd.C_below (by repeat (first | (with_reducible exact HR230.out) | (with_reducible refine Kd.C_alloc ?_ _) | (with_reducible refine Kd.C_drewN ?_ _) | (with_reducible refine Kd.C_drew ?_) | exact HR230.out)) hb); have n6_ := Aside0.mk (below_step (by repeat (first | (with_reducible first | exact HB.out | apply below_alloc | apply pw_below_drewN | apply below_drew1 | refine below_set ?_ GE203.out | refine below_set ?_ GE211.out) | exact HB.out)) hb); clear HO_5; clear HO_9; clear BK203; clear BK211; clear HR225; clear HR230; clear HB; have HO_5 := n0_; have HO_9 := n1_; have BK203 := n2_; have BK211 := n3_; have HR225 := n4_; have HR230 := n5_; have HB := n6_; clear n0_ n1_ n2_ n3_ n4_ n5_ n6_; (try clear hb); (try clear hb2); (try clear hk); (try clear hi)))
            go_ret
            exact ⟨by first | rfl | (simp [errW_none, errW_some] <;> rfl) | (simp [*, errW_none, errW_some] <;> rfl), by repeat (first | (with_reducible first | exact HB.out | apply below_alloc | apply pw_below_drewN | apply below_drew1 | refine below_set ?_ GE203.out | refine below_set ?_ GE211.out) | exact HB.out)⟩
           ·rw [if_neg c44] at H
            have c44b0 : (t226 == t233) = false := by simpa using c44
            (try (have c44b1 : decide (t226 = t233) = false := by simpa using c44))
            (try (have c44b2 : (t226 == t233) = false := by simpa using c44))
            (try (have c44b3 : ¬ (t226 = t233) := by simpa using c44))
            clear c44
            obtain rfl := Option.some.inj H
            try go_wp2
            have n0_ := Aside0.mk (Kd.R_drew HO_5.out)
            have n1_ := Aside0.mk (Kd.R_drew HO_9.out)
            have n2_ := Aside0.mk (blk_drew BK203.out)
            have n3_ := Aside0.mk (blk_drew BK211.out)
            have n4_ := Aside0.mk (below_drew1 HB.out)
            clear HO_5
            clear HO_9
            clear BK203
            clear BK211
            clear HB
            have HO_5 := n0_
            have HO_9 := n1_
            have BK203 := n2_
            have BK211 := n3_
            have HB := n4_
            clear n0_ n1_ n2_ n3_ n4_
            have q60 : ((l0_4.length : Int) : Int) ≤ ((x5_1.length : Int) : Int) := of_decide_eq_true (by first | (with_reducible assumption) | assumption)
            obtain ⟨i060, hi060, _, hsz60, _⟩ := info_parts info55
            have hroom60 : x5_1.length ≤ co24 := (Kd.R_reads' HO_5.out).2.1
            have hC60 : Kd.C k55 _ Ao24 x5_1.length x5_1 := (Kd.R_reads' HO_5.out).2.2
            have hcut60 := cut_to (P := Try.prog) 26 55 .i64 Try.underlying26 hi060 Ao24 x5_1.length co24 (l0_4.length : Int) (of_decide_eq_true (by first | (with_reducible assumption) | assumption)) q60 hroom60
            have hr60 := Kd.C_take (m := ((l0_4.length : Int) : Int).toNat) hC60 (by omega)
            have hy60 : y222.length = ((l0_4.length : Int) : Int).toNat := (by rw [Ny222.out, List.length_take]; omega)
            rw [← Ny222.out] at hr60
            rw [← hy60] at hcut60
            have HR225 := Aside0.mk hr60
            have HC225 := Aside0.mk (show y222.length ≤ co24 from by omega)
            clear hr60 hC60 hroom60 hi060 hsz60
            have KY60 := Aside0.mk hy60
            clear hy60
            have KL60 := Aside0.mk (show ((l0_4.length : Int) : Int).toNat ≤ x5_1.length from by omega)
            replace q60 := eq_true q60
            refine start_ (n := 10) (S := fun w' => w'.cell? ⟨gb211, 0, none⟩ = some (.int .u64 t208) ∧ w'.cell? ⟨gb211, 1, none⟩ = some (.int .i64 t209) ∧ w'.cell? ⟨gb211, 2, none⟩ = some (.int .i64 t210) ∧ w'.cell? ⟨gb203, 0, none⟩ = some (.int .u64 a0_0) ∧ w'.cell? ⟨gb203, 1, none⟩ = some (.int .i64 a0_1) ∧ w'.cell? ⟨gb203, 2, none⟩ = some (.int .i64 a0_2) ∧ w'.cell? ⟨gb203, 3, none⟩ = some (.int .i64 a0_3) ∧ w'.cell? ⟨gb203, 4, none⟩ = some (.slice A0_4 l0_4.length c0_4) ∧ w'.cell? ⟨gb203, 5, none⟩ = some (.int .u64 a0_5) ∧ w'.cell? ⟨gb203, 6, none⟩ = some (.bool a0_6)) (ds := []) #[F,F,F,F,F,F,F,F,F,F] (by kernel_rfl) rfl rfl ⟨(blk_cell BK211.out 0).trans rfl, (blk_cell BK211.out 1).trans rfl, (blk_cell BK211.out 2).trans rfl, (blk_cell BK203.out 0).trans rfl, (blk_cell BK203.out 1).trans rfl, (blk_cell BK203.out 2).trans rfl, (blk_cell BK203.out 3).trans rfl, (blk_cell BK203.out 4).trans rfl, (blk_cell BK203.out 5).trans rfl, (blk_cell BK203.out 6).trans rfl⟩ (fun hHeld => ?_); refine with_tabW croftlaw11_OracleAgain.tab14 croftlaw11_OracleAgain.bits14 (fun HT_ HW_ => ?_)
            generalize wr.drew = w59 at HO_5 HO_9 BK203 BK211 HB HR225 hHeld ⊢
            refine pure_ (i := 1) (N := some 54) (v := ?_) (a' := ?_) #[F,T,F,F,F,F,F,F,F,F] rfl rfl (any_of HT_.out (by kernel_rfl)) (fun _ _ _ h => h) (Or.inl ⟨by rfl, ?_⟩) ?_ ?_
            rotate_left
            ·intro w'
             go_simp
             with_reducible rfl
            rotate_left
            ·simp only [Act.put, Sa, Sb, Sc, i64_w, i32_w]
             rfl
            refine pure_ (i := 3) (N := some 56) (v := ?_) (a' := ?_) #[F,T,F,T,F,F,F,F,F,F] rfl rfl (any_of HT_.out (by kernel_rfl)) (fun _ _ _ h => h) (Or.inl ⟨by rfl, ?_⟩) ?_ ?_
            rotate_left
            ·intro w'
             go_simp
             with_reducible rfl
            rotate_left
            ·simp only [Act.put, Sa, Sb, Sc, i64_w, i32_w]
             rfl
            refine pure_ (i := 4) (N := some 57) (v := ?_) (a' := ?_) #[F,T,F,T,T,F,F,F,F,F] rfl rfl (any_of HT_.out (by kernel_rfl)) (fun _ _ _ h => h) (Or.inl ⟨by rfl, ?_⟩) ?_ ?_
            rotate_left
            ·intro w'
             go_simp
             with_reducible rfl
            rotate_left
            ·simp only [Act.put, Sa, Sb, Sc, i64_w, i32_w]
             rfl
            refine pure_ (i := 5) (N := some 58) (v := ?_) (a' := ?_) #[F,T,F,T,T,T,F,F,F,F] rfl rfl (any_of HT_.out (by kernel_rfl)) (fun _ _ _ h => h) (Or.inl ⟨by rfl, ?_⟩) ?_ ?_
            rotate_left
            ·intro w'
             go_simp
             with_reducible rfl
            rotate_left
            ·simp only [Act.put, Sa, Sb, Sc, i64_w, i32_w]
             rfl
            refine pure_ (i := 6) (N := some 59) (v := ?_) (a' := ?_) #[F,T,F,T,T,T,T,F,F,F] rfl rfl (any_of HT_.out (by kernel_rfl)) (fun _ _ _ h => h) (Or.inl ⟨by rfl, ?_⟩) ?_ ?_
            rotate_left
            ·intro w'
             go_simp
             with_reducible rfl
            rotate_left
            ·simp only [Act.put, Sa, Sb, Sc, i64_w, i32_w]
             rfl
            refine take_ (i := 0) (N := some 53) (v := ?_) (a' := ?_) #[T,T,F,T,T,T,T,F,F,F] rfl rfl (take_ofW HT_.out HW_.out (by kernel_rfl)) (fun _ _ _ h => h) (Or.inl ⟨by rfl, ?_⟩) hHeld ?_ ?_
            rotate_left
            ·rintro w' ⟨s0, s1, s2, s3, s4, s5, s6, s7, s8, s9⟩
             go_simp
             with_reducible rfl
            rotate_left
            ·simp only [Act.put, Sa, Sb, Sc, i64_w, i32_w]
             rfl
            refine take_ (i := 2) (N := some 55) (v := ?_) (a' := ?_) #[T,T,T,T,T,T,T,F,F,F] rfl rfl (take_ofW HT_.out HW_.out (by kernel_rfl)) (fun _ _ _ h => h) (Or.inl ⟨by rfl, ?_⟩) hHeld ?_ ?_
            rotate_left
            ·rintro w' ⟨s0, s1, s2, s3, s4, s5, s6, s7, s8, s9⟩
             go_simp
             with_reducible rfl
            rotate_left
            ·simp only [Act.put, Sa, Sb, Sc, i64_w, i32_w]
             rfl
            refine take_ (i := 7) (N := some 60) (v := ?_) (a' := ?_) #[T,T,T,T,T,T,T,T,F,F] rfl rfl (take_ofW HT_.out HW_.out (by kernel_rfl)) (fun _ _ _ h => h) (Or.inl ⟨by rfl, ?_⟩) hHeld ?_ ?_
            rotate_left
            ·rintro w' ⟨s0, s1, s2, s3, s4, s5, s6, s7, s8, s9⟩
             go_simp
             with_reducible rfl
            rotate_left
            ·simp only [Act.put, Sa, Sb, Sc, i64_w, i32_w]
             rfl
            refine one_ (i := 8) (N := some 61) #[T,T,T,T,T,T,T,T,T,F] rfl rfl (one_of HT_.out (by kernel_rfl)) (by decide) (fun K hK => ?_)
            refine goes_ Try.func23 (by kernel_rfl) rfl #[.agg #[.int .u64 t208, .int .i64 t209, .int .i64 t210], .int .i64 a0_3, .slice Ao24 y222.length co24, .int .u64 a0_5] (by rfl) rfl rfl (by (try simp only [List.map_toArray, List.map_cons, List.map_nil]); first | done | rfl | (rw [show y222.length = y227.length from by rw [Ny222.out, Ny227.out]]; rfl) | (simp only [List.length_drop, List.length_take]; rfl)) ?_
            with_reducible refine (oracle_NoFit.calls t208 t209 t210 a0_3 _ _ y222 a0_5 t226 _ ?side1 ?side2 A37.out).mono ?_
            (case side1 => repeat (first | exact (by repeat (first | (with_reducible exact HR225.out) | (with_reducible refine Kd.C_alloc ?_ _) | (with_reducible refine Kd.C_drewN ?_ _) | (with_reducible refine Kd.C_drew ?_) | exact HR225.out)) | (with_reducible refine Kd.C_alloc ?_ _) | (with_reducible refine Kd.C_drewN ?_ _) | (with_reducible refine Kd.C_drew ?_)))
            (case side2 => exact HC225.out)
            rintro e w61 ⟨rfl, hb⟩
            refine ⟨_, rfl, ?_⟩
            have n0_ := Aside0.mk (Kd.R_below (by (with_reducible repeat (first | apply Kd.R_alloc | apply Kd.R_drewN | apply Kd.R_drew)); exact HO_5.out) hb)
            have n1_ := Aside0.mk (Kd.R_below (by (with_reducible repeat (first | apply Kd.R_alloc | apply Kd.R_drewN | apply Kd.R_drew)); exact HO_9.out) hb)
            have n2_ := Aside0.mk (blk_below (g := gb203) (o := .cells #[.int .u64 a0_0, .int .i64 a0_1, .int .i64 a0_2, .int .i64 a0_3, .slice A0_4 l0_4.length c0_4, .int .u64 a0_5, .bool a0_6] 44 (0, 0)) (by (with_reducible repeat (first | refine blk_drewN ?_ _ | refine blk_drew ?_ | refine blk_alloc ?_ _)); exact BK203.out) hb)
            have n3_ := Aside0.mk (blk_below (g := gb211) (o := .cells #[.int .u64 t208, .int .i64 t209, .int .i64 t210] 29 (0, 0)) (by (with_reducible repeat (first | refine blk_drewN ?_ _ | refine blk_drew ?_ | refine blk_alloc ?_ _)); exact BK211.out) hb)
            have n4_ := Aside0.mk (Kd.C_below (by repeat (first | (with_reducible exact HR225.out) | (with_reducible refine Kd.C_alloc ?_ _) | (with_reducible refine Kd.C_drewN ?_ _) | (with_reducible refine Kd.C_drew ?_) | exact HR225.out)) hb)
            have n5_ := Aside0.mk (below_step (by repeat (first | (with_reducible first | exact HB.out | apply below_alloc | apply pw_below_drewN | apply below_drew1 | refine below_set ?_ GE203.out | refine below_set ?_ GE211.out) | exact HB.out)) hb)
            clear HO_5
            clear HO_9
            clear BK203
            clear BK211
            clear HR225
            clear HB
            have HO_5 := n0_
            have HO_9 := n1_
            have BK203 := n2_
            have BK211 := n3_
            have HR225 := n4_
            have HB := n5_
            clear n0_ n1_ n2_ n3_ n4_ n5_
            (try clear hb)
            (try clear hb2)
            (try clear hk)
            (try clear hi)
            refine hK.out _ _ ⟨(blk_cell BK211.out 0).trans rfl, (blk_cell BK211.out 1).trans rfl, (blk_cell BK211.out 2).trans rfl, (blk_cell BK203.out 0).trans rfl, (blk_cell BK203.out 1).trans rfl, (blk_cell BK203.out 2).trans rfl, (blk_cell BK203.out 3).trans rfl, (blk_cell BK203.out 4).trans rfl, (blk_cell BK203.out 5).trans rfl, (blk_cell BK203.out 6).trans rfl⟩ (fun hHeld => ?_)
            clear hK K
            refine norm_ (a' := ?_) ?_ ?_
            rotate_left
            ·show Act.put _ (some 61) _ = _
             simp only [Act.put, Sa, Sb, Sc, i64_w, i32_w]
             rfl
            refine pure_ (i := 9) (N := some 11) (v := ?_) (a' := ?_) #[T,T,T,T,T,T,T,T,T,T] rfl rfl (any_of HT_.out (by kernel_rfl)) (fun _ _ _ h => h) (Or.inl ⟨by rfl, ?_⟩) ?_ ?_
            rotate_left
            ·intro w'
             go_simp
             with_reducible rfl
            rotate_left
            ·simp only [Act.put, Sa, Sb, Sc, i64_w, i32_w]
             rfl
            refine done_ (done_of HT_.out (by kernel_rfl)) ?_
            try go_wp2
            have n0_ := Aside0.mk (Kd.R_drew HO_5.out)
            have n1_ := Aside0.mk (Kd.R_drew HO_9.out)
            have n2_ := Aside0.mk (blk_drew BK203.out)
            have n3_ := Aside0.mk (blk_drew BK211.out)
            have n4_ := Aside0.mk (Kd.C_drew HR225.out)
            have n5_ := Aside0.mk (below_drew1 HB.out)
            clear HO_5
            clear HO_9
            clear BK203
            clear BK211
            clear HR225
            clear HB
            have HO_5 := n0_
            have HO_9 := n1_
            have BK203 := n2_
            have BK211 := n3_
            have HR225 := n4_
            have HB := n5_
            clear n0_ n1_ n2_ n3_ n4_ n5_
            have q63 : ((l0_4.length : Int) : Int) ≤ ((x5_1.length : Int) : Int) := of_decide_eq_true (by first | (with_reducible assumption) | assumption)
            obtain ⟨i063, hi063, _, hsz63, _⟩ := info_parts info55
            have hroom63 : x5_1.length ≤ co24 := (Kd.R_reads' HO_5.out).2.1
            have hC63 : Kd.C k55 _ Ao24 x5_1.length x5_1 := (Kd.R_reads' HO_5.out).2.2
            have hcut63 := cut_to (P := Try.prog) 26 55 .i64 Try.underlying26 hi063 Ao24 x5_1.length co24 (l0_4.length : Int) (of_decide_eq_true (by first | (with_reducible assumption) | assumption)) q63 hroom63
            have hr63 := Kd.C_take (m := ((l0_4.length : Int) : Int).toNat) hC63 (by omega)
            have hy63 : y227.length = ((l0_4.length : Int) : Int).toNat := (by rw [Ny227.out, List.length_take]; omega)
            rw [← Ny227.out] at hr63
            rw [← hy63] at hcut63
            have HR230 := Aside0.mk hr63
            have HC230 := Aside0.mk (show y227.length ≤ co24 from by omega)
            clear hr63 hC63 hroom63 hi063 hsz63
            have KY63 := Aside0.mk hy63
            clear hy63
            have KL63 := Aside0.mk (show ((l0_4.length : Int) : Int).toNat ≤ x5_1.length from by omega)
            replace q63 := eq_true q63
            refine start_ (n := 8) (S := fun w' => w'.cell? ⟨gb211, 0, none⟩ = some (.int .u64 t208) ∧ w'.cell? ⟨gb211, 1, none⟩ = some (.int .i64 t209) ∧ w'.cell? ⟨gb211, 2, none⟩ = some (.int .i64 t210) ∧ w'.cell? ⟨gb203, 0, none⟩ = some (.int .u64 a0_0) ∧ w'.cell? ⟨gb203, 1, none⟩ = some (.int .i64 a0_1) ∧ w'.cell? ⟨gb203, 2, none⟩ = some (.int .i64 a0_2) ∧ w'.cell? ⟨gb203, 3, none⟩ = some (.int .i64 a0_3) ∧ w'.cell? ⟨gb203, 4, none⟩ = some (.slice A0_4 l0_4.length c0_4) ∧ w'.cell? ⟨gb203, 5, none⟩ = some (.int .u64 a0_5) ∧ w'.cell? ⟨gb203, 6, none⟩ = some (.bool a0_6)) (ds := []) #[F,F,F,F,F,F,F,F] (by kernel_rfl) rfl rfl ⟨(blk_cell BK211.out 0).trans rfl, (blk_cell BK211.out 1).trans rfl, (blk_cell BK211.out 2).trans rfl, (blk_cell BK203.out 0).trans rfl, (blk_cell BK203.out 1).trans rfl, (blk_cell BK203.out 2).trans rfl, (blk_cell BK203.out 3).trans rfl, (blk_cell BK203.out 4).trans rfl, (blk_cell BK203.out 5).trans rfl, (blk_cell BK203.out 6).trans rfl⟩ (fun hHeld => ?_); refine with_tabW croftlaw11_OracleAgain.tab15 croftlaw11_OracleAgain.bits15 (fun HT_ HW_ => ?_)
            generalize w61.drew = w62 at HO_5 HO_9 BK203 BK211 HR225 HB HR230 hHeld ⊢
            refine pure_ (i := 1) (N := some 63) (v := ?_) (a' := ?_) #[F,T,F,F,F,F,F,F] rfl rfl (any_of HT_.out (by kernel_rfl)) (fun _ _ _ h => h) (Or.inl ⟨by rfl, ?_⟩) ?_ ?_
            rotate_left
            ·intro w'
             go_simp
             with_reducible rfl
            rotate_left
            ·simp only [Act.put, Sa, Sb, Sc, i64_w, i32_w]
             rfl
            refine pure_ (i := 3) (N := some 65) (v := ?_) (a' := ?_) #[F,T,F,T,F,F,F,F] rfl rfl (any_of HT_.out (by kernel_rfl)) (fun _ _ _ h => h) (Or.inl ⟨by rfl, ?_⟩) ?_ ?_
            rotate_left
            ·intro w'
             go_simp
             with_reducible rfl
            rotate_left
            ·simp only [Act.put, Sa, Sb, Sc, i64_w, i32_w]
             rfl
            refine pure_ (i := 4) (N := some 66) (v := ?_) (a' := ?_) #[F,T,F,T,T,F,F,F] rfl rfl (any_of HT_.out (by kernel_rfl)) (fun _ _ _ h => h) (Or.inl ⟨by rfl, ?_⟩) ?_ ?_
            rotate_left
            ·intro w'
             go_simp
             with_reducible rfl
            rotate_left
            ·simp only [Act.put, Sa, Sb, Sc, i64_w, i32_w]
             rfl
            refine pure_ (i := 5) (N := some 67) (v := ?_) (a' := ?_) #[F,T,F,T,T,T,F,F] rfl rfl (any_of HT_.out (by kernel_rfl)) (fun _ _ _ h => h) (Or.inl ⟨by rfl, ?_⟩) ?_ ?_
            rotate_left
            ·intro w'
             go_simp
             with_reducible rfl
            rotate_left
            ·simp only [Act.put, Sa, Sb, Sc, i64_w, i32_w]
             rfl
            refine take_ (i := 0) (N := some 62) (v := ?_) (a' := ?_) #[T,T,F,T,T,T,F,F] rfl rfl (take_ofW HT_.out HW_.out (by kernel_rfl)) (fun _ _ _ h => h) (Or.inl ⟨by rfl, ?_⟩) hHeld ?_ ?_
            rotate_left
            ·rintro w' ⟨s0, s1, s2, s3, s4, s5, s6, s7, s8, s9⟩
             go_simp
             with_reducible rfl
            rotate_left
            ·simp only [Act.put, Sa, Sb, Sc, i64_w, i32_w]
             rfl
            refine take_ (i := 2) (N := some 64) (v := ?_) (a' := ?_) #[T,T,T,T,T,T,F,F] rfl rfl (take_ofW HT_.out HW_.out (by kernel_rfl)) (fun _ _ _ h => h) (Or.inl ⟨by rfl, ?_⟩) hHeld ?_ ?_
            rotate_left
            ·rintro w' ⟨s0, s1, s2, s3, s4, s5, s6, s7, s8, s9⟩
             go_simp
             with_reducible rfl
            rotate_left
            ·simp only [Act.put, Sa, Sb, Sc, i64_w, i32_w]
             rfl
            refine one_ (i := 6) (N := some 68) #[T,T,T,T,T,T,T,F] rfl rfl (one_of HT_.out (by kernel_rfl)) (by decide) (fun K hK => ?_)
            refine goes_ Try.func14 (by kernel_rfl) rfl #[.agg #[.int .u64 t208, .int .i64 t209, .int .i64 t210], .int .i64 a0_3, .slice Ao24 y227.length co24] (by rfl) rfl rfl (by (try simp only [List.map_toArray, List.map_cons, List.map_nil]); first | done | rfl | (rw [show y227.length = y222.length from by rw [Ny227.out, Ny222.out]]; rfl) | (simp only [List.length_drop, List.length_take]; rfl)) ?_
            with_reducible refine (oracle_Sound.calls t208 t209 t210 a0_3 _ _ y227 t231 _ ?side1 ?side2 A40.out).mono ?_
            (case side1 => repeat (first | exact (by repeat (first | (with_reducible exact HR230.out) | (with_reducible refine Kd.C_alloc ?_ _) | (with_reducible refine Kd.C_drewN ?_ _) | (with_reducible refine Kd.C_drew ?_) | exact HR230.out)) | (with_reducible refine Kd.C_alloc ?_ _) | (with_reducible refine Kd.C_drewN ?_ _) | (with_reducible refine Kd.C_drew ?_)))
            (case side2 => exact HC230.out)
            rintro e w64 ⟨rfl, hb⟩
            refine ⟨_, rfl, ?_⟩
            have n0_ := Aside0.mk (Kd.R_below (by (with_reducible repeat (first | apply Kd.R_alloc | apply Kd.R_drewN | apply Kd.R_drew)); exact HO_5.out) hb)
            have n1_ := Aside0.mk (Kd.R_below (by (with_reducible repeat (first | apply Kd.R_alloc | apply Kd.R_drewN | apply Kd.R_drew)); exact HO_9.out) hb)
            have n2_ := Aside0.mk (blk_below (g := gb203) (o := .cells #[.int .u64 a0_0, .int .i64 a0_1, .int .i64 a0_2, .int .i64 a0_3, .slice A0_4 l0_4.length c0_4, .int .u64 a0_5, .bool a0_6] 44 (0, 0)) (by (with_reducible repeat (first | refine blk_drewN ?_ _ | refine blk_drew ?_ | refine blk_alloc ?_ _)); exact BK203.out) hb)
            have n3_ := Aside0.mk (blk_below (g := gb211) (o := .cells #[.int .u64 t208, .int .i64 t209, .int .i64 t210] 29 (0, 0)) (by (with_reducible repeat (first | refine blk_drewN ?_ _ | refine blk_drew ?_ | refine blk_alloc ?_ _)); exact BK211.out) hb)
            have n4_ := Aside0.mk (Kd.C_below (by repeat (first | (with_reducible exact HR225.out) | (with_reducible refine Kd.C_alloc ?_ _) | (with_reducible refine Kd.C_drewN ?_ _) | (with_reducible refine Kd.C_drew ?_) | exact HR225.out)) hb)
            have n5_ := Aside0.mk (Kd.C_below (by repeat (first | (with_reducible exact HR230.out) | (with_reducible refine Kd.C_alloc ?_ _) | (with_reducible refine Kd.C_drewN ?_ _) | (with_reducible refine Kd.C_drew ?_) | exact HR230.out)) hb)
            have n6_ := Aside0.mk (below_step (by repeat (first | (with_reducible first | exact HB.out | apply below_alloc | apply pw_below_drewN | apply below_drew1 | refine below_set ?_ GE203.out | refine below_set ?_ GE211.out) | exact HB.out)) hb)
            clear HO_5
            clear HO_9
            clear BK203
            clear BK211
            clear HR225
            clear HR230
            clear HB
            have HO_5 := n0_
            have HO_9 := n1_
            have BK203 := n2_
            have BK211 := n3_
            have HR225 := n4_
            have HR230 := n5_
            have HB := n6_
            clear n0_ n1_ n2_ n3_ n4_ n5_ n6_
            (try clear hb)
            (try clear hb2)
            (try clear hk)
            (try clear hi)
            refine hK.out _ _ ⟨(blk_cell BK211.out 0).trans rfl, (blk_cell BK211.out 1).trans rfl, (blk_cell BK211.out 2).trans rfl, (blk_cell BK203.out 0).trans rfl, (blk_cell BK203.out 1).trans rfl, (blk_cell BK203.out 2).trans rfl, (blk_cell BK203.out 3).trans rfl, (blk_cell BK203.out 4).trans rfl, (blk_cell BK203.out 5).trans rfl, (blk_cell BK203.out 6).trans rfl⟩ (fun hHeld => ?_)
            clear hK K
            refine norm_ (a' := ?_) ?_ ?_
            rotate_left
            ·show Act.put _ (some 68) _ = _
             simp only [Act.put, Sa, Sb, Sc, i64_w, i32_w]
             rfl
            refine pure_ (i := 7) (N := some 12) (v := ?_) (a' := ?_) #[T,T,T,T,T,T,T,T] rfl rfl (any_of HT_.out (by kernel_rfl)) (fun _ _ _ h => h) (Or.inl ⟨by rfl, ?_⟩) ?_ ?_
            rotate_left
            ·intro w'
             go_simp
             with_reducible rfl
            rotate_left
            ·simp only [Act.put, Sa, Sb, Sc, i64_w, i32_w]
             rfl
            refine done_ (done_of HT_.out (by kernel_rfl)) ?_
            have hnb65 := NB203_211.out
            have hnc65 := NB211_203.out
            have hcz66_0 : w64.cell? ⟨gb203, 0, none⟩ = some (.int .u64 a0_0) := (blk_cell BK203.out 0).trans rfl
            have hcz66_1 : w64.cell? ⟨gb203, 1, none⟩ = some (.int .i64 a0_1) := (blk_cell BK203.out 1).trans rfl
            have hcz66_2 : w64.cell? ⟨gb203, 2, none⟩ = some (.int .i64 a0_2) := (blk_cell BK203.out 2).trans rfl
            have hcz66_3 : w64.cell? ⟨gb203, 3, none⟩ = some (.int .i64 a0_3) := (blk_cell BK203.out 3).trans rfl
            have hcz66_4 : w64.cell? ⟨gb203, 4, none⟩ = some (.slice A0_4 l0_4.length c0_4) := (blk_cell BK203.out 4).trans rfl
            have hcz66_5 : w64.cell? ⟨gb203, 5, none⟩ = some (.int .u64 a0_5) := (blk_cell BK203.out 5).trans rfl
            have hcz66_6 : w64.cell? ⟨gb203, 6, none⟩ = some (.bool a0_6) := (blk_cell BK203.out 6).trans rfl
            have hfz66_0 := blk_frozen BK203.out 0
            have hfz66_1 := blk_frozen BK203.out 1
            have hfz66_2 := blk_frozen BK203.out 2
            have hfz66_3 := blk_frozen BK203.out 3
            have hfz66_4 := blk_frozen BK203.out 4
            have hfz66_5 := blk_frozen BK203.out 5
            have hfz66_6 := blk_frozen BK203.out 6
            try go_wp2_with (first | ((with_reducible refine gate_callee (f := 27) rfl ?_); refine goesL_ (some 78) rfl rfl Try.func27 (by kernel_rfl) rfl #[.agg #[.int .u64 a0_0, .int .i64 a0_1, .int .i64 a0_2], .int .i64 a0_3, .slice A0_4 l0_4.length c0_4, .int .u64 a0_5] rfl (by (try simp only [List.map_toArray, List.map_cons, List.map_nil]); first | done | rfl | (simp only [List.length_drop, List.length_take]; rfl)) ?_; (with_reducible refine (croftref11_NoFit.calls k1 a0_0 a0_1 a0_2 a0_3 _ _ l0_4 a0_5 t232 _ ?side1 ?side2 A41.out).mono ?_); (case side1 => repeat (first | exact (Kd.C_below HR0_4.out HB.out) | (with_reducible refine Kd.C_alloc ?_ _) | (with_reducible refine Kd.C_drewN ?_ _) | (with_reducible refine Kd.C_drew ?_))); (case side2 => exact HC0_4.out); rintro e w67 ⟨rfl, hb⟩; refine ⟨_, rfl, ?_⟩; have n0_ := Aside0.mk (Kd.R_below (by (with_reducible repeat (first | apply Kd.R_alloc | apply Kd.R_drewN | apply Kd.R_drew)); exact HO_5.out) hb); have n1_ := Aside0.mk (Kd.R_below (by (with_reducible repeat (first | apply Kd.R_alloc | apply Kd.R_drewN | apply Kd.R_drew)); exact HO_9.out) hb); have n2_ := Aside0.mk (blk_below (g := gb203) (o := .cells #[.int .u64 a0_0, .int .i64 a0_1, .int .i64 a0_2, .int .i64 a0_3, .slice A0_4 l0_4.length c0_4, .int .u64 a0_5, .bool a0_6] 44 (0, 0)) (by (with_reducible repeat (first | refine blk_drewN ?_ _ | refine blk_drew ?_ | refine blk_alloc ?_ _)); exact BK203.out) hb); have n3_ := Aside0.mk (blk_below (g := gb211) (o := .cells #[.int .u64 t208, .int .i64 t209, .int .i64 t210] 29 (0, 0)) (by (with_reducible repeat (first | refine blk_drewN ?_ _ | refine blk_drew ?_ | refine blk_alloc ?_ _)); exact BK211.out) hb); have n4_ := Aside0.mk (Kd.C_below (by repeat (first | (with_reducible exact HR225.out) | (with_reducible refine Kd.C_alloc ?_ _) | (with_reducible refine Kd.C_drewN ?_ _) | (with_reducible refine Kd.C_drew ?_) | exact HR225.out)) hb); have n5_ := Aside0.mk (Kd.C_below (by repeat (first | (with_reducible exact HR230.out) | (with_reducible refine Kd.C_alloc ?_ _) | (with_reducible refine Kd.C_drewN ?_ _) | (with_reducible refine Kd.C_drew ?_) | exact HR230.out)) hb); have n6_ := Aside0.mk (below_step (by repeat (first | (with_reducible first | exact HB.out | apply below_alloc | apply pw_below_drewN | apply below_drew1 | refine below_set ?_ GE203.out | refine below_set ?_ GE211.out) | exact HB.out)) hb); clear HO_5; clear HO_9; clear BK203; clear BK211; clear HR225; clear HR230; clear HB; have HO_5 := n0_; have HO_9 := n1_; have BK203 := n2_; have BK211 := n3_; have HR225 := n4_; have HR230 := n5_; have HB := n6_; clear n0_ n1_ n2_ n3_ n4_ n5_ n6_; (try clear hb); (try clear hb2); (try clear hk); (try clear hi); have hcz68_0 : w67.cell? ⟨gb203, 0, none⟩ = some (.int .u64 a0_0) := (blk_cell BK203.out 0).trans rfl; have hcz68_1 : w67.cell? ⟨gb203, 1, none⟩ = some (.int .i64 a0_1) := (blk_cell BK203.out 1).trans rfl; have hcz68_2 : w67.cell? ⟨gb203, 2, none⟩ = some (.int .i64 a0_2) := (blk_cell BK203.out 2).trans rfl; have hcz68_3 : w67.cell? ⟨gb203, 3, none⟩ = some (.int .i64 a0_3) := (blk_cell BK203.out 3).trans rfl; have hcz68_4 : w67.cell? ⟨gb203, 4, none⟩ = some (.slice A0_4 l0_4.length c0_4) := (blk_cell BK203.out 4).trans rfl; have hcz68_5 : w67.cell? ⟨gb203, 5, none⟩ = some (.int .u64 a0_5) := (blk_cell BK203.out 5).trans rfl; have hcz68_6 : w67.cell? ⟨gb203, 6, none⟩ = some (.bool a0_6) := (blk_cell BK203.out 6).trans rfl; have hfz68_0 := blk_frozen BK203.out 0; have hfz68_1 := blk_frozen BK203.out 1; have hfz68_2 := blk_frozen BK203.out 2; have hfz68_3 := blk_frozen BK203.out 3; have hfz68_4 := blk_frozen BK203.out 4; have hfz68_5 := blk_frozen BK203.out 5; have hfz68_6 := blk_frozen BK203.out 6) | (go_at_call 27; (with_reducible refine (croftref11_NoFit.calls k1 a0_0 a0_1 a0_2 a0_3 _ _ l1 a0_5 t233 _ ?side1 ?side2 A43.out).mono ?_); (case side1 => repeat (first | exact (Kd.C_below HR1.out HB.out) | (with_reducible refine Kd.C_alloc ?_ _) | (with_reducible refine Kd.C_drewN ?_ _) | (with_reducible refine Kd.C_drew ?_))); (case side2 => exact HC1.out); rintro e w69 ⟨rfl, hb⟩; have n0_ := Aside0.mk (Kd.R_below (by (with_reducible repeat (first | apply Kd.R_alloc | apply Kd.R_drewN | apply Kd.R_drew)); exact HO_5.out) hb); have n1_ := Aside0.mk (Kd.R_below (by (with_reducible repeat (first | apply Kd.R_alloc | apply Kd.R_drewN | apply Kd.R_drew)); exact HO_9.out) hb); have n2_ := Aside0.mk (blk_below (g := gb203) (o := .cells #[.int .u64 a0_0, .int .i64 a0_1, .int .i64 a0_2, .int .i64 a0_3, .slice A0_4 l0_4.length c0_4, .int .u64 a0_5, .bool a0_6] 44 (0, 0)) (by (with_reducible repeat (first | refine blk_drewN ?_ _ | refine blk_drew ?_ | refine blk_alloc ?_ _)); exact BK203.out) hb); have n3_ := Aside0.mk (blk_below (g := gb211) (o := .cells #[.int .u64 t208, .int .i64 t209, .int .i64 t210] 29 (0, 0)) (by (with_reducible repeat (first | refine blk_drewN ?_ _ | refine blk_drew ?_ | refine blk_alloc ?_ _)); exact BK211.out) hb); have n4_ := Aside0.mk (Kd.C_below (by repeat (first | (with_reducible exact HR225.out) | (with_reducible refine Kd.C_alloc ?_ _) | (with_reducible refine Kd.C_drewN ?_ _) | (with_reducible refine Kd.C_drew ?_) | exact HR225.out)) hb); have n5_ := Aside0.mk (Kd.C_below (by repeat (first | (with_reducible exact HR230.out) | (with_reducible refine Kd.C_alloc ?_ _) | (with_reducible refine Kd.C_drewN ?_ _) | (with_reducible refine Kd.C_drew ?_) | exact HR230.out)) hb); have n6_ := Aside0.mk (below_step (by repeat (first | (with_reducible first | exact HB.out | apply below_alloc | apply pw_below_drewN | apply below_drew1 | refine below_set ?_ GE203.out | refine below_set ?_ GE211.out) | exact HB.out)) hb); clear HO_5; clear HO_9; clear BK203; clear BK211; clear HR225; clear HR230; clear HB; have HO_5 := n0_; have HO_9 := n1_; have BK203 := n2_; have BK211 := n3_; have HR225 := n4_; have HR230 := n5_; have HB := n6_; clear n0_ n1_ n2_ n3_ n4_ n5_ n6_; (try clear hb); (try clear hb2); (try clear hk); (try clear hi)))
            go_ret
            exact ⟨by first | rfl | (simp [errW_none, errW_some] <;> rfl) | (simp [*, errW_none, errW_some] <;> rfl), by repeat (first | (with_reducible first | exact HB.out | apply below_alloc | apply pw_below_drewN | apply below_drew1 | refine below_set ?_ GE203.out | refine below_set ?_ GE211.out) | exact HB.out)⟩
          ·rw [if_neg c42] at H
           have c42b0 : (t216 == t232) = false := by simpa using c42
           (try (have c42b1 : decide (t216 = t232) = false := by simpa using c42))
           (try (have c42b2 : (t216 == t232) = false := by simpa using c42))
           (try (have c42b3 : ¬ (t216 = t232) := by simpa using c42))
           clear c42
           obtain rfl := Option.some.inj H
           try go_wp2
           have n0_ := Aside0.mk (Kd.R_drew HO_5.out)
           have n1_ := Aside0.mk (Kd.R_drew HO_9.out)
           have n2_ := Aside0.mk (blk_drew BK203.out)
           have n3_ := Aside0.mk (blk_drew BK211.out)
           have n4_ := Aside0.mk (below_drew1 HB.out)
           clear HO_5
           clear HO_9
           clear BK203
           clear BK211
           clear HB
           have HO_5 := n0_
           have HO_9 := n1_
           have BK203 := n2_
           have BK211 := n3_
           have HB := n4_
           clear n0_ n1_ n2_ n3_ n4_
           have q71 : ((l0_4.length : Int) : Int) ≤ ((x5_1.length : Int) : Int) := of_decide_eq_true (by first | (with_reducible assumption) | assumption)
           obtain ⟨i071, hi071, _, hsz71, _⟩ := info_parts info55
           have hroom71 : x5_1.length ≤ co24 := (Kd.R_reads' HO_5.out).2.1
           have hC71 : Kd.C k55 _ Ao24 x5_1.length x5_1 := (Kd.R_reads' HO_5.out).2.2
           have hcut71 := cut_to (P := Try.prog) 26 55 .i64 Try.underlying26 hi071 Ao24 x5_1.length co24 (l0_4.length : Int) (of_decide_eq_true (by first | (with_reducible assumption) | assumption)) q71 hroom71
           have hr71 := Kd.C_take (m := ((l0_4.length : Int) : Int).toNat) hC71 (by omega)
           have hy71 : y222.length = ((l0_4.length : Int) : Int).toNat := (by rw [Ny222.out, List.length_take]; omega)
           rw [← Ny222.out] at hr71
           rw [← hy71] at hcut71
           have HR225 := Aside0.mk hr71
           have HC225 := Aside0.mk (show y222.length ≤ co24 from by omega)
           clear hr71 hC71 hroom71 hi071 hsz71
           have KY71 := Aside0.mk hy71
           clear hy71
           have KL71 := Aside0.mk (show ((l0_4.length : Int) : Int).toNat ≤ x5_1.length from by omega)
           replace q71 := eq_true q71
           refine start_ (n := 10) (S := fun w' => w'.cell? ⟨gb211, 0, none⟩ = some (.int .u64 t208) ∧ w'.cell? ⟨gb211, 1, none⟩ = some (.int .i64 t209) ∧ w'.cell? ⟨gb211, 2, none⟩ = some (.int .i64 t210) ∧ w'.cell? ⟨gb203, 0, none⟩ = some (.int .u64 a0_0) ∧ w'.cell? ⟨gb203, 1, none⟩ = some (.int .i64 a0_1) ∧ w'.cell? ⟨gb203, 2, none⟩ = some (.int .i64 a0_2) ∧ w'.cell? ⟨gb203, 3, none⟩ = some (.int .i64 a0_3) ∧ w'.cell? ⟨gb203, 4, none⟩ = some (.slice A0_4 l0_4.length c0_4) ∧ w'.cell? ⟨gb203, 5, none⟩ = some (.int .u64 a0_5) ∧ w'.cell? ⟨gb203, 6, none⟩ = some (.bool a0_6)) (ds := []) #[F,F,F,F,F,F,F,F,F,F] (by kernel_rfl) rfl rfl ⟨(blk_cell BK211.out 0).trans rfl, (blk_cell BK211.out 1).trans rfl, (blk_cell BK211.out 2).trans rfl, (blk_cell BK203.out 0).trans rfl, (blk_cell BK203.out 1).trans rfl, (blk_cell BK203.out 2).trans rfl, (blk_cell BK203.out 3).trans rfl, (blk_cell BK203.out 4).trans rfl, (blk_cell BK203.out 5).trans rfl, (blk_cell BK203.out 6).trans rfl⟩ (fun hHeld => ?_); refine with_tabW croftlaw11_OracleAgain.tab14 croftlaw11_OracleAgain.bits14 (fun HT_ HW_ => ?_)
           generalize wr.drew = w70 at HO_5 HO_9 BK203 BK211 HB HR225 hHeld ⊢
           refine pure_ (i := 1) (N := some 54) (v := ?_) (a' := ?_) #[F,T,F,F,F,F,F,F,F,F] rfl rfl (any_of HT_.out (by kernel_rfl)) (fun _ _ _ h => h) (Or.inl ⟨by rfl, ?_⟩) ?_ ?_
           rotate_left
           ·intro w'
            go_simp
            with_reducible rfl
           rotate_left
           ·simp only [Act.put, Sa, Sb, Sc, i64_w, i32_w]
            rfl
           refine pure_ (i := 3) (N := some 56) (v := ?_) (a' := ?_) #[F,T,F,T,F,F,F,F,F,F] rfl rfl (any_of HT_.out (by kernel_rfl)) (fun _ _ _ h => h) (Or.inl ⟨by rfl, ?_⟩) ?_ ?_
           rotate_left
           ·intro w'
            go_simp
            with_reducible rfl
           rotate_left
           ·simp only [Act.put, Sa, Sb, Sc, i64_w, i32_w]
            rfl
           refine pure_ (i := 4) (N := some 57) (v := ?_) (a' := ?_) #[F,T,F,T,T,F,F,F,F,F] rfl rfl (any_of HT_.out (by kernel_rfl)) (fun _ _ _ h => h) (Or.inl ⟨by rfl, ?_⟩) ?_ ?_
           rotate_left
           ·intro w'
            go_simp
            with_reducible rfl
           rotate_left
           ·simp only [Act.put, Sa, Sb, Sc, i64_w, i32_w]
            rfl
           refine pure_ (i := 5) (N := some 58) (v := ?_) (a' := ?_) #[F,T,F,T,T,T,F,F,F,F] rfl rfl (any_of HT_.out (by kernel_rfl)) (fun _ _ _ h => h) (Or.inl ⟨by rfl, ?_⟩) ?_ ?_
           rotate_left
           ·intro w'
            go_simp
            with_reducible rfl
           rotate_left
           ·simp only [Act.put, Sa, Sb, Sc, i64_w, i32_w]
            rfl
           refine pure_ (i := 6) (N := some 59) (v := ?_) (a' := ?_) #[F,T,F,T,T,T,T,F,F,F] rfl rfl (any_of HT_.out (by kernel_rfl)) (fun _ _ _ h => h) (Or.inl ⟨by rfl, ?_⟩) ?_ ?_
           rotate_left
           ·intro w'
            go_simp
            with_reducible rfl
           rotate_left
           ·simp only [Act.put, Sa, Sb, Sc, i64_w, i32_w]
            rfl
           refine take_ (i := 0) (N := some 53) (v := ?_) (a' := ?_) #[T,T,F,T,T,T,T,F,F,F] rfl rfl (take_ofW HT_.out HW_.out (by kernel_rfl)) (fun _ _ _ h => h) (Or.inl ⟨by rfl, ?_⟩) hHeld ?_ ?_
           rotate_left
           ·rintro w' ⟨s0, s1, s2, s3, s4, s5, s6, s7, s8, s9⟩
            go_simp
            with_reducible rfl
           rotate_left
           ·simp only [Act.put, Sa, Sb, Sc, i64_w, i32_w]
            rfl
           refine take_ (i := 2) (N := some 55) (v := ?_) (a' := ?_) #[T,T,T,T,T,T,T,F,F,F] rfl rfl (take_ofW HT_.out HW_.out (by kernel_rfl)) (fun _ _ _ h => h) (Or.inl ⟨by rfl, ?_⟩) hHeld ?_ ?_
           rotate_left
           ·rintro w' ⟨s0, s1, s2, s3, s4, s5, s6, s7, s8, s9⟩
            go_simp
            with_reducible rfl
           rotate_left
           ·simp only [Act.put, Sa, Sb, Sc, i64_w, i32_w]
            rfl
           refine take_ (i := 7) (N := some 60) (v := ?_) (a' := ?_) #[T,T,T,T,T,T,T,T,F,F] rfl rfl (take_ofW HT_.out HW_.out (by kernel_rfl)) (fun _ _ _ h => h) (Or.inl ⟨by rfl, ?_⟩) hHeld ?_ ?_
           rotate_left
           ·rintro w' ⟨s0, s1, s2, s3, s4, s5, s6, s7, s8, s9⟩
            go_simp
            with_reducible rfl
           rotate_left
           ·simp only [Act.put, Sa, Sb, Sc, i64_w, i32_w]
            rfl
           refine one_ (i := 8) (N := some 61) #[T,T,T,T,T,T,T,T,T,F] rfl rfl (one_of HT_.out (by kernel_rfl)) (by decide) (fun K hK => ?_)
           refine goes_ Try.func23 (by kernel_rfl) rfl #[.agg #[.int .u64 t208, .int .i64 t209, .int .i64 t210], .int .i64 a0_3, .slice Ao24 y222.length co24, .int .u64 a0_5] (by rfl) rfl rfl (by (try simp only [List.map_toArray, List.map_cons, List.map_nil]); first | done | rfl | (rw [show y222.length = y227.length from by rw [Ny222.out, Ny227.out]]; rfl) | (simp only [List.length_drop, List.length_take]; rfl)) ?_
           with_reducible refine (oracle_NoFit.calls t208 t209 t210 a0_3 _ _ y222 a0_5 t226 _ ?side1 ?side2 A37.out).mono ?_
           (case side1 => repeat (first | exact (by repeat (first | (with_reducible exact HR225.out) | (with_reducible refine Kd.C_alloc ?_ _) | (with_reducible refine Kd.C_drewN ?_ _) | (with_reducible refine Kd.C_drew ?_) | exact HR225.out)) | (with_reducible refine Kd.C_alloc ?_ _) | (with_reducible refine Kd.C_drewN ?_ _) | (with_reducible refine Kd.C_drew ?_)))
           (case side2 => exact HC225.out)
           rintro e w72 ⟨rfl, hb⟩
           refine ⟨_, rfl, ?_⟩
           have n0_ := Aside0.mk (Kd.R_below (by (with_reducible repeat (first | apply Kd.R_alloc | apply Kd.R_drewN | apply Kd.R_drew)); exact HO_5.out) hb)
           have n1_ := Aside0.mk (Kd.R_below (by (with_reducible repeat (first | apply Kd.R_alloc | apply Kd.R_drewN | apply Kd.R_drew)); exact HO_9.out) hb)
           have n2_ := Aside0.mk (blk_below (g := gb203) (o := .cells #[.int .u64 a0_0, .int .i64 a0_1, .int .i64 a0_2, .int .i64 a0_3, .slice A0_4 l0_4.length c0_4, .int .u64 a0_5, .bool a0_6] 44 (0, 0)) (by (with_reducible repeat (first | refine blk_drewN ?_ _ | refine blk_drew ?_ | refine blk_alloc ?_ _)); exact BK203.out) hb)
           have n3_ := Aside0.mk (blk_below (g := gb211) (o := .cells #[.int .u64 t208, .int .i64 t209, .int .i64 t210] 29 (0, 0)) (by (with_reducible repeat (first | refine blk_drewN ?_ _ | refine blk_drew ?_ | refine blk_alloc ?_ _)); exact BK211.out) hb)
           have n4_ := Aside0.mk (Kd.C_below (by repeat (first | (with_reducible exact HR225.out) | (with_reducible refine Kd.C_alloc ?_ _) | (with_reducible refine Kd.C_drewN ?_ _) | (with_reducible refine Kd.C_drew ?_) | exact HR225.out)) hb)
           have n5_ := Aside0.mk (below_step (by repeat (first | (with_reducible first | exact HB.out | apply below_alloc | apply pw_below_drewN | apply below_drew1 | refine below_set ?_ GE203.out | refine below_set ?_ GE211.out) | exact HB.out)) hb)
           clear HO_5
           clear HO_9
           clear BK203
           clear BK211
           clear HR225
           clear HB
           have HO_5 := n0_
           have HO_9 := n1_
           have BK203 := n2_
           have BK211 := n3_
           have HR225 := n4_
           have HB := n5_
           clear n0_ n1_ n2_ n3_ n4_ n5_
           (try clear hb)
           (try clear hb2)
           (try clear hk)
           (try clear hi)
           refine hK.out _ _ ⟨(blk_cell BK211.out 0).trans rfl, (blk_cell BK211.out 1).trans rfl, (blk_cell BK211.out 2).trans rfl, (blk_cell BK203.out 0).trans rfl, (blk_cell BK203.out 1).trans rfl, (blk_cell BK203.out 2).trans rfl, (blk_cell BK203.out 3).trans rfl, (blk_cell BK203.out 4).trans rfl, (blk_cell BK203.out 5).trans rfl, (blk_cell BK203.out 6).trans rfl⟩ (fun hHeld => ?_)
           clear hK K
           refine norm_ (a' := ?_) ?_ ?_
           rotate_left
           ·show Act.put _ (some 61) _ = _
            simp only [Act.put, Sa, Sb, Sc, i64_w, i32_w]
            rfl
           refine pure_ (i := 9) (N := some 11) (v := ?_) (a' := ?_) #[T,T,T,T,T,T,T,T,T,T] rfl rfl (any_of HT_.out (by kernel_rfl)) (fun _ _ _ h => h) (Or.inl ⟨by rfl, ?_⟩) ?_ ?_
           rotate_left
           ·intro w'
            go_simp
            with_reducible rfl
           rotate_left
           ·simp only [Act.put, Sa, Sb, Sc, i64_w, i32_w]
            rfl
           refine done_ (done_of HT_.out (by kernel_rfl)) ?_
           try go_wp2
           have n0_ := Aside0.mk (Kd.R_drew HO_5.out)
           have n1_ := Aside0.mk (Kd.R_drew HO_9.out)
           have n2_ := Aside0.mk (blk_drew BK203.out)
           have n3_ := Aside0.mk (blk_drew BK211.out)
           have n4_ := Aside0.mk (Kd.C_drew HR225.out)
           have n5_ := Aside0.mk (below_drew1 HB.out)
           clear HO_5
           clear HO_9
           clear BK203
           clear BK211
           clear HR225
           clear HB
           have HO_5 := n0_
           have HO_9 := n1_
           have BK203 := n2_
           have BK211 := n3_
           have HR225 := n4_
           have HB := n5_
           clear n0_ n1_ n2_ n3_ n4_ n5_
           have q74 : ((l0_4.length : Int) : Int) ≤ ((x5_1.length : Int) : Int) := of_decide_eq_true (by first | (with_reducible assumption) | assumption)
           obtain ⟨i074, hi074, _, hsz74, _⟩ := info_parts info55
           have hroom74 : x5_1.length ≤ co24 := (Kd.R_reads' HO_5.out).2.1
           have hC74 : Kd.C k55 _ Ao24 x5_1.length x5_1 := (Kd.R_reads' HO_5.out).2.2
           have hcut74 := cut_to (P := Try.prog) 26 55 .i64 Try.underlying26 hi074 Ao24 x5_1.length co24 (l0_4.length : Int) (of_decide_eq_true (by first | (with_reducible assumption) | assumption)) q74 hroom74
           have hr74 := Kd.C_take (m := ((l0_4.length : Int) : Int).toNat) hC74 (by omega)
           have hy74 : y227.length = ((l0_4.length : Int) : Int).toNat := (by rw [Ny227.out, List.length_take]; omega)
           rw [← Ny227.out] at hr74
           rw [← hy74] at hcut74
           have HR230 := Aside0.mk hr74
           have HC230 := Aside0.mk (show y227.length ≤ co24 from by omega)
           clear hr74 hC74 hroom74 hi074 hsz74
           have KY74 := Aside0.mk hy74
           clear hy74
           have KL74 := Aside0.mk (show ((l0_4.length : Int) : Int).toNat ≤ x5_1.length from by omega)
           replace q74 := eq_true q74
           refine start_ (n := 8) (S := fun w' => w'.cell? ⟨gb211, 0, none⟩ = some (.int .u64 t208) ∧ w'.cell? ⟨gb211, 1, none⟩ = some (.int .i64 t209) ∧ w'.cell? ⟨gb211, 2, none⟩ = some (.int .i64 t210) ∧ w'.cell? ⟨gb203, 0, none⟩ = some (.int .u64 a0_0) ∧ w'.cell? ⟨gb203, 1, none⟩ = some (.int .i64 a0_1) ∧ w'.cell? ⟨gb203, 2, none⟩ = some (.int .i64 a0_2) ∧ w'.cell? ⟨gb203, 3, none⟩ = some (.int .i64 a0_3) ∧ w'.cell? ⟨gb203, 4, none⟩ = some (.slice A0_4 l0_4.length c0_4) ∧ w'.cell? ⟨gb203, 5, none⟩ = some (.int .u64 a0_5) ∧ w'.cell? ⟨gb203, 6, none⟩ = some (.bool a0_6)) (ds := []) #[F,F,F,F,F,F,F,F] (by kernel_rfl) rfl rfl ⟨(blk_cell BK211.out 0).trans rfl, (blk_cell BK211.out 1).trans rfl, (blk_cell BK211.out 2).trans rfl, (blk_cell BK203.out 0).trans rfl, (blk_cell BK203.out 1).trans rfl, (blk_cell BK203.out 2).trans rfl, (blk_cell BK203.out 3).trans rfl, (blk_cell BK203.out 4).trans rfl, (blk_cell BK203.out 5).trans rfl, (blk_cell BK203.out 6).trans rfl⟩ (fun hHeld => ?_); refine with_tabW croftlaw11_OracleAgain.tab15 croftlaw11_OracleAgain.bits15 (fun HT_ HW_ => ?_)
           generalize w72.drew = w73 at HO_5 HO_9 BK203 BK211 HR225 HB HR230 hHeld ⊢
           refine pure_ (i := 1) (N := some 63) (v := ?_) (a' := ?_) #[F,T,F,F,F,F,F,F] rfl rfl (any_of HT_.out (by kernel_rfl)) (fun _ _ _ h => h) (Or.inl ⟨by rfl, ?_⟩) ?_ ?_
           rotate_left
           ·intro w'
            go_simp
            with_reducible rfl
           rotate_left
           ·simp only [Act.put, Sa, Sb, Sc, i64_w, i32_w]
            rfl
           refine pure_ (i := 3) (N := some 65) (v := ?_) (a' := ?_) #[F,T,F,T,F,F,F,F] rfl rfl (any_of HT_.out (by kernel_rfl)) (fun _ _ _ h => h) (Or.inl ⟨by rfl, ?_⟩) ?_ ?_
           rotate_left
           ·intro w'
            go_simp
            with_reducible rfl
           rotate_left
           ·simp only [Act.put, Sa, Sb, Sc, i64_w, i32_w]
            rfl
           refine pure_ (i := 4) (N := some 66) (v := ?_) (a' := ?_) #[F,T,F,T,T,F,F,F] rfl rfl (any_of HT_.out (by kernel_rfl)) (fun _ _ _ h => h) (Or.inl ⟨by rfl, ?_⟩) ?_ ?_
           rotate_left
           ·intro w'
            go_simp
            with_reducible rfl
           rotate_left
           ·simp only [Act.put, Sa, Sb, Sc, i64_w, i32_w]
            rfl
           refine pure_ (i := 5) (N := some 67) (v := ?_) (a' := ?_) #[F,T,F,T,T,T,F,F] rfl rfl (any_of HT_.out (by kernel_rfl)) (fun _ _ _ h => h) (Or.inl ⟨by rfl, ?_⟩) ?_ ?_
           rotate_left
           ·intro w'
            go_simp
            with_reducible rfl
           rotate_left
           ·simp only [Act.put, Sa, Sb, Sc, i64_w, i32_w]
            rfl
           refine take_ (i := 0) (N := some 62) (v := ?_) (a' := ?_) #[T,T,F,T,T,T,F,F] rfl rfl (take_ofW HT_.out HW_.out (by kernel_rfl)) (fun _ _ _ h => h) (Or.inl ⟨by rfl, ?_⟩) hHeld ?_ ?_
           rotate_left
           ·rintro w' ⟨s0, s1, s2, s3, s4, s5, s6, s7, s8, s9⟩
            go_simp
            with_reducible rfl
           rotate_left
           ·simp only [Act.put, Sa, Sb, Sc, i64_w, i32_w]
            rfl
           refine take_ (i := 2) (N := some 64) (v := ?_) (a' := ?_) #[T,T,T,T,T,T,F,F] rfl rfl (take_ofW HT_.out HW_.out (by kernel_rfl)) (fun _ _ _ h => h) (Or.inl ⟨by rfl, ?_⟩) hHeld ?_ ?_
           rotate_left
           ·rintro w' ⟨s0, s1, s2, s3, s4, s5, s6, s7, s8, s9⟩
            go_simp
            with_reducible rfl
           rotate_left
           ·simp only [Act.put, Sa, Sb, Sc, i64_w, i32_w]
            rfl
           refine one_ (i := 6) (N := some 68) #[T,T,T,T,T,T,T,F] rfl rfl (one_of HT_.out (by kernel_rfl)) (by decide) (fun K hK => ?_)
           refine goes_ Try.func14 (by kernel_rfl) rfl #[.agg #[.int .u64 t208, .int .i64 t209, .int .i64 t210], .int .i64 a0_3, .slice Ao24 y227.length co24] (by rfl) rfl rfl (by (try simp only [List.map_toArray, List.map_cons, List.map_nil]); first | done | rfl | (rw [show y227.length = y222.length from by rw [Ny227.out, Ny222.out]]; rfl) | (simp only [List.length_drop, List.length_take]; rfl)) ?_
           with_reducible refine (oracle_Sound.calls t208 t209 t210 a0_3 _ _ y227 t231 _ ?side1 ?side2 A40.out).mono ?_
           (case side1 => repeat (first | exact (by repeat (first | (with_reducible exact HR230.out) | (with_reducible refine Kd.C_alloc ?_ _) | (with_reducible refine Kd.C_drewN ?_ _) | (with_reducible refine Kd.C_drew ?_) | exact HR230.out)) | (with_reducible refine Kd.C_alloc ?_ _) | (with_reducible refine Kd.C_drewN ?_ _) | (with_reducible refine Kd.C_drew ?_)))
           (case side2 => exact HC230.out)
           rintro e w75 ⟨rfl, hb⟩
           refine ⟨_, rfl, ?_⟩
           have n0_ := Aside0.mk (Kd.R_below (by (with_reducible repeat (first | apply Kd.R_alloc | apply Kd.R_drewN | apply Kd.R_drew)); exact HO_5.out) hb)
           have n1_ := Aside0.mk (Kd.R_below (by (with_reducible repeat (first | apply Kd.R_alloc | apply Kd.R_drewN | apply Kd.R_drew)); exact HO_9.out) hb)
           have n2_ := Aside0.mk (blk_below (g := gb203) (o := .cells #[.int .u64 a0_0, .int .i64 a0_1, .int .i64 a0_2, .int .i64 a0_3, .slice A0_4 l0_4.length c0_4, .int .u64 a0_5, .bool a0_6] 44 (0, 0)) (by (with_reducible repeat (first | refine blk_drewN ?_ _ | refine blk_drew ?_ | refine blk_alloc ?_ _)); exact BK203.out) hb)
           have n3_ := Aside0.mk (blk_below (g := gb211) (o := .cells #[.int .u64 t208, .int .i64 t209, .int .i64 t210] 29 (0, 0)) (by (with_reducible repeat (first | refine blk_drewN ?_ _ | refine blk_drew ?_ | refine blk_alloc ?_ _)); exact BK211.out) hb)
           have n4_ := Aside0.mk (Kd.C_below (by repeat (first | (with_reducible exact HR225.out) | (with_reducible refine Kd.C_alloc ?_ _) | (with_reducible refine Kd.C_drewN ?_ _) | (with_reducible refine Kd.C_drew ?_) | exact HR225.out)) hb)
           have n5_ := Aside0.mk (Kd.C_below (by repeat (first | (with_reducible exact HR230.out) | (with_reducible refine Kd.C_alloc ?_ _) | (with_reducible refine Kd.C_drewN ?_ _) | (with_reducible refine Kd.C_drew ?_) | exact HR230.out)) hb)
           have n6_ := Aside0.mk (below_step (by repeat (first | (with_reducible first | exact HB.out | apply below_alloc | apply pw_below_drewN | apply below_drew1 | refine below_set ?_ GE203.out | refine below_set ?_ GE211.out) | exact HB.out)) hb)
           clear HO_5
           clear HO_9
           clear BK203
           clear BK211
           clear HR225
           clear HR230
           clear HB
           have HO_5 := n0_
           have HO_9 := n1_
           have BK203 := n2_
           have BK211 := n3_
           have HR225 := n4_
           have HR230 := n5_
           have HB := n6_
           clear n0_ n1_ n2_ n3_ n4_ n5_ n6_
           (try clear hb)
           (try clear hb2)
           (try clear hk)
           (try clear hi)
           refine hK.out _ _ ⟨(blk_cell BK211.out 0).trans rfl, (blk_cell BK211.out 1).trans rfl, (blk_cell BK211.out 2).trans rfl, (blk_cell BK203.out 0).trans rfl, (blk_cell BK203.out 1).trans rfl, (blk_cell BK203.out 2).trans rfl, (blk_cell BK203.out 3).trans rfl, (blk_cell BK203.out 4).trans rfl, (blk_cell BK203.out 5).trans rfl, (blk_cell BK203.out 6).trans rfl⟩ (fun hHeld => ?_)
           clear hK K
           refine norm_ (a' := ?_) ?_ ?_
           rotate_left
           ·show Act.put _ (some 68) _ = _
            simp only [Act.put, Sa, Sb, Sc, i64_w, i32_w]
            rfl
           refine pure_ (i := 7) (N := some 12) (v := ?_) (a' := ?_) #[T,T,T,T,T,T,T,T] rfl rfl (any_of HT_.out (by kernel_rfl)) (fun _ _ _ h => h) (Or.inl ⟨by rfl, ?_⟩) ?_ ?_
           rotate_left
           ·intro w'
            go_simp
            with_reducible rfl
           rotate_left
           ·simp only [Act.put, Sa, Sb, Sc, i64_w, i32_w]
            rfl
           refine done_ (done_of HT_.out (by kernel_rfl)) ?_
           have hnb76 := NB203_211.out
           have hnc76 := NB211_203.out
           have hcz77_0 : w75.cell? ⟨gb203, 0, none⟩ = some (.int .u64 a0_0) := (blk_cell BK203.out 0).trans rfl
           have hcz77_1 : w75.cell? ⟨gb203, 1, none⟩ = some (.int .i64 a0_1) := (blk_cell BK203.out 1).trans rfl
           have hcz77_2 : w75.cell? ⟨gb203, 2, none⟩ = some (.int .i64 a0_2) := (blk_cell BK203.out 2).trans rfl
           have hcz77_3 : w75.cell? ⟨gb203, 3, none⟩ = some (.int .i64 a0_3) := (blk_cell BK203.out 3).trans rfl
           have hcz77_4 : w75.cell? ⟨gb203, 4, none⟩ = some (.slice A0_4 l0_4.length c0_4) := (blk_cell BK203.out 4).trans rfl
           have hcz77_5 : w75.cell? ⟨gb203, 5, none⟩ = some (.int .u64 a0_5) := (blk_cell BK203.out 5).trans rfl
           have hcz77_6 : w75.cell? ⟨gb203, 6, none⟩ = some (.bool a0_6) := (blk_cell BK203.out 6).trans rfl
           have hfz77_0 := blk_frozen BK203.out 0
           have hfz77_1 := blk_frozen BK203.out 1
           have hfz77_2 := blk_frozen BK203.out 2
           have hfz77_3 := blk_frozen BK203.out 3
           have hfz77_4 := blk_frozen BK203.out 4
           have hfz77_5 := blk_frozen BK203.out 5
           have hfz77_6 := blk_frozen BK203.out 6
           try go_wp2_with (first | ((with_reducible refine gate_callee (f := 27) rfl ?_); refine goesL_ (some 78) rfl rfl Try.func27 (by kernel_rfl) rfl #[.agg #[.int .u64 a0_0, .int .i64 a0_1, .int .i64 a0_2], .int .i64 a0_3, .slice A0_4 l0_4.length c0_4, .int .u64 a0_5] rfl (by (try simp only [List.map_toArray, List.map_cons, List.map_nil]); first | done | rfl | (simp only [List.length_drop, List.length_take]; rfl)) ?_; (with_reducible refine (croftref11_NoFit.calls k1 a0_0 a0_1 a0_2 a0_3 _ _ l0_4 a0_5 t232 _ ?side1 ?side2 A41.out).mono ?_); (case side1 => repeat (first | exact (Kd.C_below HR0_4.out HB.out) | (with_reducible refine Kd.C_alloc ?_ _) | (with_reducible refine Kd.C_drewN ?_ _) | (with_reducible refine Kd.C_drew ?_))); (case side2 => exact HC0_4.out); rintro e w78 ⟨rfl, hb⟩; refine ⟨_, rfl, ?_⟩; have n0_ := Aside0.mk (Kd.R_below (by (with_reducible repeat (first | apply Kd.R_alloc | apply Kd.R_drewN | apply Kd.R_drew)); exact HO_5.out) hb); have n1_ := Aside0.mk (Kd.R_below (by (with_reducible repeat (first | apply Kd.R_alloc | apply Kd.R_drewN | apply Kd.R_drew)); exact HO_9.out) hb); have n2_ := Aside0.mk (blk_below (g := gb203) (o := .cells #[.int .u64 a0_0, .int .i64 a0_1, .int .i64 a0_2, .int .i64 a0_3, .slice A0_4 l0_4.length c0_4, .int .u64 a0_5, .bool a0_6] 44 (0, 0)) (by (with_reducible repeat (first | refine blk_drewN ?_ _ | refine blk_drew ?_ | refine blk_alloc ?_ _)); exact BK203.out) hb); have n3_ := Aside0.mk (blk_below (g := gb211) (o := .cells #[.int .u64 t208, .int .i64 t209, .int .i64 t210] 29 (0, 0)) (by (with_reducible repeat (first | refine blk_drewN ?_ _ | refine blk_drew ?_ | refine blk_alloc ?_ _)); exact BK211.out) hb); have n4_ := Aside0.mk (Kd.C_below (by repeat (first | (with_reducible exact HR225.out) | (with_reducible refine Kd.C_alloc ?_ _) | (with_reducible refine Kd.C_drewN ?_ _) | (with_reducible refine Kd.C_drew ?_) | exact HR225.out)) hb); have n5_ := Aside0.mk (Kd.C_below (by repeat (first | (with_reducible exact HR230.out) | (with_reducible refine Kd.C_alloc ?_ _) | (with_reducible refine Kd.C_drewN ?_ _) | (with_reducible refine Kd.C_drew ?_) | exact HR230.out)) hb); have n6_ := Aside0.mk (below_step (by repeat (first | (with_reducible first | exact HB.out | apply below_alloc | apply pw_below_drewN | apply below_drew1 | refine below_set ?_ GE203.out | refine below_set ?_ GE211.out) | exact HB.out)) hb); clear HO_5; clear HO_9; clear BK203; clear BK211; clear HR225; clear HR230; clear HB; have HO_5 := n0_; have HO_9 := n1_; have BK203 := n2_; have BK211 := n3_; have HR225 := n4_; have HR230 := n5_; have HB := n6_; clear n0_ n1_ n2_ n3_ n4_ n5_ n6_; (try clear hb); (try clear hb2); (try clear hk); (try clear hi)))
           go_ret
           exact ⟨by first | rfl | (simp [errW_none, errW_some] <;> rfl) | (simp [*, errW_none, errW_some] <;> rfl), by repeat (first | (with_reducible first | exact HB.out | apply below_alloc | apply pw_below_drewN | apply below_drew1 | refine below_set ?_ GE203.out | refine below_set ?_ GE211.out) | exact HB.out)⟩
         ·rw [if_neg c36] at H
          exact absurd H (by simp)
        ·rw [if_neg c35] at H
         exact absurd H (by simp)
    ·rw [if_neg c9] at H
     exact absurd H (by simp)
   ·rw [if_neg c8] at H
    exact absurd H (by simp)
  ·rw [if_neg c5] at H
   have c5b0 : ((l1.length : Int) == (l0_4.length : Int)) = false := beq_eq_false_iff_ne.mpr c5
   have c5b1 : ((l1.length : Int) != (l0_4.length : Int)) = true := bne_iff_ne.mpr c5
   have c5b2 : (l1.length == l0_4.length) = false := by first | simpa using c5 | (simp at c5 ⊢; omega)
   obtain rfl := Option.some.inj H
   go_enter Try.func8, Try.ntmps8
   go_wp2_with (first | ((with_reducible refine gate_dst (N := 2) rfl ?_); refine box_event ?hg (N := 2) ?hd (cs := #[.int .u64 a0_0, .int .i64 a0_1, .int .i64 a0_2, .int .i64 a0_3, .slice A0_4 l0_4.length c0_4, .int .u64 a0_5, .bool a0_6]) (t := 44) ?hr ?_; (case hd => rfl); (case hg => rfl); (case hr => first | (go_simp; done) | (go_simp; rfl)); intro gb203 hg w79 hbox hb; have n0_ := Aside0.mk (below_step (by repeat (first | (with_reducible first | exact HB.out | apply below_alloc | apply pw_below_drewN | apply below_drew1) | exact HB.out)) hb); have n1_ := Aside0.mk (hbox); have n2_ := Aside0.mk ((by rw [hg]; exact (below_size (by repeat (first | (with_reducible first | exact HB.out | apply below_alloc | apply pw_below_drewN | apply below_drew1) | exact HB.out))) : w.heap.size ≤ gb203)); have n3_ := Aside0.mk ((by rw [hg]; exact (below_size (by repeat (first | (with_reducible first | exact HB.out | apply below_alloc | apply pw_below_drewN | apply below_drew1) | exact HB.out))) : w.heap.size ≤ gb203)); clear HB; have HB := n0_; have BK203 := n1_; have GW203 := n2_; have GE203 := n3_; clear n0_ n1_ n2_ n3_; clear hb hbox hg) | ((with_reducible refine gate_callee (f := 18) rfl ?_); refine goesL_ (some 13) rfl rfl Try.func18 (by kernel_rfl) rfl #[] rfl (by (try simp only [List.map_toArray, List.map_cons, List.map_nil]); first | done | rfl | (simp only [List.length_drop, List.length_take]; rfl)) ?_; (with_reducible refine (croftlaw11_awake.calls k  true _ A3.out).mono ?_); rintro e w80 ⟨rfl, hb⟩; refine ⟨_, rfl, ?_⟩; have n0_ := Aside0.mk (blk_below (g := gb203) (o := .cells #[.int .u64 a0_0, .int .i64 a0_1, .int .i64 a0_2, .int .i64 a0_3, .slice A0_4 l0_4.length c0_4, .int .u64 a0_5, .bool a0_6] 44 (0, 0)) (by (with_reducible repeat (first | refine blk_drewN ?_ _ | refine blk_drew ?_ | refine blk_alloc ?_ _)); exact BK203.out) hb); have n1_ := Aside0.mk (below_step (by repeat (first | (with_reducible first | exact HB.out | apply below_alloc | apply pw_below_drewN | apply below_drew1 | refine below_set ?_ GE203.out) | exact HB.out)) hb); clear BK203; clear HB; have BK203 := n0_; have HB := n1_; clear n0_ n1_; (try clear hb); (try clear hb2); (try clear hk); (try clear hi); have hcz81_0 : w80.cell? ⟨gb203, 0, none⟩ = some (.int .u64 a0_0) := (blk_cell BK203.out 0).trans rfl; have hcz81_1 : w80.cell? ⟨gb203, 1, none⟩ = some (.int .i64 a0_1) := (blk_cell BK203.out 1).trans rfl; have hcz81_2 : w80.cell? ⟨gb203, 2, none⟩ = some (.int .i64 a0_2) := (blk_cell BK203.out 2).trans rfl; have hcz81_3 : w80.cell? ⟨gb203, 3, none⟩ = some (.int .i64 a0_3) := (blk_cell BK203.out 3).trans rfl; have hcz81_4 : w80.cell? ⟨gb203, 4, none⟩ = some (.slice A0_4 l0_4.length c0_4) := (blk_cell BK203.out 4).trans rfl; have hcz81_5 : w80.cell? ⟨gb203, 5, none⟩ = some (.int .u64 a0_5) := (blk_cell BK203.out 5).trans rfl; have hcz81_6 : w80.cell? ⟨gb203, 6, none⟩ = some (.bool a0_6) := (blk_cell BK203.out 6).trans rfl; have hfz81_0 := blk_frozen BK203.out 0; have hfz81_1 := blk_frozen BK203.out 1; have hfz81_2 := blk_frozen BK203.out 2; have hfz81_3 := blk_frozen BK203.out 3; have hfz81_4 := blk_frozen BK203.out 4; have hfz81_5 := blk_frozen BK203.out 5; have hfz81_6 := blk_frozen BK203.out 6))
   go_ret
   exact ⟨by first | rfl | (simp [errW_none, errW_some] <;> rfl) | (simp [*, errW_none, errW_some] <;> rfl), by repeat (first | (with_reducible first | exact HB.out | apply below_alloc | apply pw_below_drewN | apply below_drew1 | refine below_set ?_ GE203.out) | exact HB.out)⟩
 ·replace c4 := Bool.eq_false_iff.mpr c4
  subst c4
  have H1 : (some false) = some r := by rw [if_neg (show ¬ (false = true) by decide)] at H; exact H
  clear H
  have H := H1
  clear H1
  obtain rfl := Option.some.inj H
  go_enter Try.func8, Try.ntmps8
  go_wp2_with (first | ((with_reducible refine gate_dst (N := 2) rfl ?_); refine box_event ?hg (N := 2) ?hd (cs := #[.int .u64 a0_0, .int .i64 a0_1, .int .i64 a0_2, .int .i64 a0_3, .slice A0_4 l0_4.length c0_4, .int .u64 a0_5, .bool a0_6]) (t := 44) ?hr ?_; (case hd => rfl); (case hg => rfl); (case hr => first | (go_simp; done) | (go_simp; rfl)); intro gb203 hg w82 hbox hb; have n0_ := Aside0.mk (below_step (by repeat (first | (with_reducible first | exact HB.out | apply below_alloc | apply pw_below_drewN | apply below_drew1) | exact HB.out)) hb); have n1_ := Aside0.mk (hbox); have n2_ := Aside0.mk ((by rw [hg]; exact (below_size (by repeat (first | (with_reducible first | exact HB.out | apply below_alloc | apply pw_below_drewN | apply below_drew1) | exact HB.out))) : w.heap.size ≤ gb203)); have n3_ := Aside0.mk ((by rw [hg]; exact (below_size (by repeat (first | (with_reducible first | exact HB.out | apply below_alloc | apply pw_below_drewN | apply below_drew1) | exact HB.out))) : w.heap.size ≤ gb203)); clear HB; have HB := n0_; have BK203 := n1_; have GW203 := n2_; have GE203 := n3_; clear n0_ n1_ n2_ n3_; clear hb hbox hg) | ((with_reducible refine gate_callee (f := 18) rfl ?_); refine goesL_ (some 13) rfl rfl Try.func18 (by kernel_rfl) rfl #[] rfl (by (try simp only [List.map_toArray, List.map_cons, List.map_nil]); first | done | rfl | (simp only [List.length_drop, List.length_take]; rfl)) ?_; (with_reducible refine (croftlaw11_awake.calls k  false _ A3.out).mono ?_); rintro e w83 ⟨rfl, hb⟩; refine ⟨_, rfl, ?_⟩; have n0_ := Aside0.mk (blk_below (g := gb203) (o := .cells #[.int .u64 a0_0, .int .i64 a0_1, .int .i64 a0_2, .int .i64 a0_3, .slice A0_4 l0_4.length c0_4, .int .u64 a0_5, .bool a0_6] 44 (0, 0)) (by (with_reducible repeat (first | refine blk_drewN ?_ _ | refine blk_drew ?_ | refine blk_alloc ?_ _)); exact BK203.out) hb); have n1_ := Aside0.mk (below_step (by repeat (first | (with_reducible first | exact HB.out | apply below_alloc | apply pw_below_drewN | apply below_drew1 | refine below_set ?_ GE203.out) | exact HB.out)) hb); clear BK203; clear HB; have BK203 := n0_; have HB := n1_; clear n0_ n1_; (try clear hb); (try clear hb2); (try clear hk); (try clear hi)))
  go_ret
  exact ⟨by first | rfl | (simp [errW_none, errW_some] <;> rfl) | (simp [*, errW_none, errW_some] <;> rfl), by repeat (first | (with_reducible first | exact HB.out | apply below_alloc | apply pw_below_drewN | apply below_drew1 | refine below_set ?_ GE203.out) | exact HB.out)⟩


end Go.Proofs.Ytihfblnjgaalcaa.R
